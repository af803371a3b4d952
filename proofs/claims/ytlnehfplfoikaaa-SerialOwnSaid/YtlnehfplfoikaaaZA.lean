/-
  Some texts as one: Base, FmA, FmB, FmC, FmD, FmE, FmF, FmG, FmH.
-/
import Derived.WalkKit
import Derived.WalkLawsBesides
import Derived.WalkSpells
import Derived.BigQuiet
import Derived.Deep.QuietTactic
import Derived.Handy
import Derived.Lib.Hide
import Derived.Maps.AppendAt
import Derived.StillTailTactics
import Derived.Deep.Draws
import Derived.Laws.OwnMore
import Derived.Maps.OwnSet
import Derived.Laws.MakeOwn
namespace Go.Proofs.Ytlnehfplfoikaaa
set_option linter.unusedVariables false
set_option maxHeartbeats 16000000
open Go.RowKit
structure zfw (P:Prop):Prop where
 out:P
theorem yd {P Q:Prop} (h:P) (f:zfw P→Q:=by intro h;(repeat (first|refine FW.seq ?_|refine FW.region ?_|refine FW.block ?_|refine FW.skip ?_|refine FW.exit ?_|refine zi.nil ?_));exact h.out):Q:=f ⟨h⟩
theorem za {P Q:Prop} (h:P) (f:zfw P→Q:=by intro h;(repeat (first|refine FW.seq ?_|refine FW.region ?_|refine FW.block ?_|refine FW.skip ?_|refine FW.exit ?_|refine FW.condT rfl ?_|refine FW.condF rfl ?_|refine zi.nil ?_|(refine ziv ?_;first|refine zG rfl rfl rfl ?_|refine zO rfl rfl rfl ?_|(refine zb6 ?_;first|refine Xs rfl rfl rfl (by first|omega|(simp;omega)|(simp;done)) (by first|exact zU (by omega)|rfl) rfl rfl rfl rfl ?_|refine ZG rfl rfl rfl rfl rfl (by first|omega|(simp;omega)|(simp;done)) (by first|exact zU (by omega)|rfl) rfl rfl rfl rfl ?_|refine VO rfl rfl rfl (by decide) (by first|omega|(simp;omega)|(simp;done)) (by first|exact zU (by omega)|rfl) rfl rfl rfl ?_|refine zb9 rfl rfl rfl (by decide) rfl rfl (by first|omega|(simp;omega)|(simp;done)) (by first|exact zU (by omega)|rfl) rfl rfl rfl ?_|refine zaN rfl rfl rfl rfl rfl rfl rfl ?_)|(refine ze1 ?_;first|refine zce rfl rfl rfl rfl rfl rfl rfl rfl rfl ?_|refine ze9 rfl rfl rfl rfl rfl rfl rfl rfl rfl ?_|refine Xt rfl rfl rfl rfl rfl rfl (by first|omega|(simp;omega)|(simp;done)) (by first|exact zU (by omega)|rfl) rfl rfl rfl ?_|refine ze7 rfl rfl rfl rfl rfl rfl (by decide) (by first|omega|(simp;omega)|(simp;done)) rfl ?_)|(refine UX ?_;first|refine zb5 rfl rfl rfl rfl rfl rfl rfl ?_|refine VL rfl rfl rfl rfl rfl rfl (by decide) rfl rfl ?_)|(refine XU ?_;first|refine Yc rfl rfl (by first|rfl|exact (Int.toNat_of_nonneg (by omega)).symm) rfl rfl rfl (by first|omega|(simp;omega)|(simp;done)) rfl rfl ?_|refine yY rfl rfl (by first|rfl|exact (Int.toNat_of_nonneg (by omega)).symm) rfl rfl rfl (by decide) rfl (by first|omega|(simp;omega)|(simp;done)) rfl rfl ?_|refine ze0 rfl rfl (by first|rfl|exact (Int.toNat_of_nonneg (by omega)).symm) rfl rfl rfl rfl (by decide) (by first|omega|(simp;omega)|(simp;done)) rfl rfl ?_|refine UW rfl rfl (by first|rfl|exact (Int.toNat_of_nonneg (by omega)).symm) rfl rfl rfl (by first|omega|(simp;omega)|(simp;done)) rfl rfl ?_)|(refine zb7 ?_;first|refine zdY rfl rfl rfl rfl ?_|refine WE rfl rfl rfl rfl ?_)|(refine zdX ?_;first|refine zhZ rfl rfl rfl rfl ?_|refine zh3 rfl rfl rfl rfl ?_|refine zcd rfl rfl rfl rfl rfl ?_|refine zh2 rfl rfl rfl rfl ?_|refine zi4 rfl rfl rfl rfl ?_|refine zh1 rfl rfl rfl rfl ?_|refine zh0 rfl rfl rfl rfl ?_|refine Xp rfl rfl (by omega) rfl rfl ?_|refine zgB rfl rfl (by omega) rfl rfl ?_|refine zi7 rfl rfl (by omega) rfl rfl ?_|refine zh4 rfl rfl (by omega) rfl rfl ?_|refine zh5 rfl rfl (by omega) rfl rfl ?_)|refine ze4 rfl rfl rfl ?_|refine zdW rfl rfl rfl rfl rfl rfl rfl ?_|refine zgu rfl rfl rfl rfl rfl rfl rfl ?_|refine zgt rfl rfl rfl rfl rfl ?_|refine zb3 rfl rfl rfl rfl ?_|refine zeV rfl rfl rfl rfl rfl rfl rfl rfl rfl ?_|refine zeW rfl rfl rfl rfl rfl rfl ?_|refine XS rfl rfl rfl rfl rfl rfl rfl rfl ?_|refine zc6 rfl rfl rfl rfl rfl rfl rfl rfl rfl rfl ?_|refine ziw rfl (by first|rfl|exact (Int.toNat_of_nonneg (by omega)).symm) rfl (by first|rfl|exact (Int.toNat_of_nonneg (by omega)).symm) rfl rfl rfl rfl (by first|omega|(simp;omega)|(simp;done)) (by first|omega|(simp;omega)|(simp;done)) rfl rfl rfl ?_|refine zgA rfl rfl rfl rfl (by decide) rfl (by first|exact LoR.none|exact LoR.some rfl|exact LoR.lit rfl (by first|rfl|exact (Int.toNat_of_nonneg (by omega)).symm)) (by first|exact HiR.none|exact HiR.some rfl|exact HiR.lit rfl (by first|rfl|exact (Int.toNat_of_nonneg (by omega)).symm)) (by first|omega|(simp;omega)|(simp;done)) (by first|omega|(simp;omega)|(simp;done)) rfl rfl ?_|refine zeZ rfl rfl rfl rfl rfl ?_|refine zhA rfl rfl rfl (by first|omega|(simp;done)|(simp;omega)) rfl rfl ?_|refine zhz rfl rfl rfl (by omega) rfl rfl ?_|refine UY rfl rfl (by omega) rfl rfl ?_|refine Yz rfl rfl rfl rfl ?_|refine ze2 rfl rfl rfl rfl rfl rfl rfl rfl ?_|refine ze3 rfl rfl rfl rfl ?_|refine zhw rfl rfl rfl rfl ?_|refine zix rfl rfl (by decide) rfl rfl ?_|refine ze5 rfl rfl rfl (by kernel_rfl) rfl rfl ?_|refine zc7 rfl rfl (by kernel_rfl) rfl rfl ?_|refine zfa rfl rfl rfl (by kernel_rfl) rfl rfl ?_|refine ziu rfl rfl rfl rfl rfl (by first|exact xV.own rfl rfl (by decide) (by first|exact List.length_map _|exact (List.length_map _).symm|exact List.length_replicate|rfl|(simp;done)|omega|(simp;omega))|exact xV.list rfl|exact xV.nil rfl|exact xV.part rfl rfl (by decide)) rfl rfl ?_|refine zir rfl rfl (by first|exact List.length_map _|exact (List.length_map _).symm|exact List.length_replicate|rfl|(simp;done)|omega|(simp;omega)) rfl rfl rfl (by decide) (by first|exact xV.own rfl rfl (by decide) (by first|exact List.length_map _|exact (List.length_map _).symm|exact List.length_replicate|rfl|(simp;done)|omega|(simp;omega))|exact xV.list rfl|exact xV.nil rfl|exact xV.part rfl rfl (by decide)) (by first|omega|(simp;omega)|(simp;done)) (by first|omega|(simp;omega)|(simp;done)) rfl rfl rfl ?_|refine VM rfl rfl rfl (by decide) rfl rfl ?_|refine XV rfl rfl (by first|exact List.length_map _|exact (List.length_map _).symm|exact List.length_replicate|rfl|(simp;done)|omega|(simp;omega)) rfl rfl ?_|refine zb8 rfl rfl rfl rfl ?_|refine zi6 rfl rfl rfl rfl ?_|refine zgy rfl rfl rfl ?_)|(refine zi3 ?_;first|refine zG rfl rfl ⟨_,_,rfl,rfl,rfl⟩ ?_|(refine zb6 ?_;first|refine Xs rfl rfl rfl (by first|omega|(simp;omega)|(simp;done)) (by first|exact zU (by omega)|rfl) rfl rfl rfl ⟨_,_,rfl,rfl,rfl⟩ ?_|refine ZG rfl rfl rfl rfl rfl (by first|omega|(simp;omega)|(simp;done)) (by first|exact zU (by omega)|rfl) rfl rfl rfl ⟨_,_,rfl,rfl,rfl⟩ ?_|refine VO rfl rfl rfl (by decide) (by first|omega|(simp;omega)|(simp;done)) (by first|exact zU (by omega)|rfl) rfl rfl ⟨_,_,rfl,rfl,rfl⟩ ?_|refine zb9 rfl rfl rfl (by decide) rfl rfl (by first|omega|(simp;omega)|(simp;done)) (by first|exact zU (by omega)|rfl) rfl rfl ⟨_,_,rfl,rfl,rfl⟩ ?_)|(refine UX ?_;first|refine zb5 rfl rfl rfl rfl rfl rfl ⟨_,_,rfl,rfl,rfl⟩ ?_|refine VL rfl rfl rfl rfl rfl rfl (by decide) rfl ⟨_,_,rfl,rfl,rfl⟩ ?_)|(refine XU ?_;first|refine Yc rfl rfl (by first|rfl|exact (Int.toNat_of_nonneg (by omega)).symm) rfl rfl rfl (by first|omega|(simp;omega)|(simp;done)) rfl ⟨_,_,rfl,rfl,rfl⟩ ?_|refine yY rfl rfl (by first|rfl|exact (Int.toNat_of_nonneg (by omega)).symm) rfl rfl rfl (by decide) rfl (by first|omega|(simp;omega)|(simp;done)) rfl ⟨_,_,rfl,rfl,rfl⟩ ?_|refine UW rfl rfl (by first|rfl|exact (Int.toNat_of_nonneg (by omega)).symm) rfl rfl rfl (by first|omega|(simp;omega)|(simp;done)) rfl ⟨_,_,rfl,rfl,rfl⟩ ?_)|(refine zb7 ?_;first|refine zdY rfl rfl rfl ⟨_,_,rfl,rfl,rfl⟩ ?_|refine WE rfl rfl rfl ⟨_,_,rfl,rfl,rfl⟩ ?_)|(refine zdX ?_;first|refine zhZ rfl rfl rfl ⟨_,_,rfl,rfl,rfl⟩ ?_|refine zh3 rfl rfl rfl ⟨_,_,rfl,rfl,rfl⟩ ?_|refine zcd rfl rfl rfl rfl ⟨_,_,rfl,rfl,rfl⟩ ?_|refine zgx rfl rfl rfl rfl (by decide) (by first|omega|(simp;omega)|(simp;done)) rfl ⟨_,_,rfl,rfl,rfl⟩ ?_|refine zh2 rfl rfl rfl ⟨_,_,rfl,rfl,rfl⟩ ?_|refine zh1 rfl rfl rfl ⟨_,_,rfl,rfl,rfl⟩ ?_|refine zh0 rfl rfl rfl ⟨_,_,rfl,rfl,rfl⟩ ?_|refine Xp rfl rfl (by omega) rfl ⟨_,_,rfl,rfl,rfl⟩ ?_|refine zh4 rfl rfl (by omega) rfl ⟨_,_,rfl,rfl,rfl⟩ ?_|refine zh5 rfl rfl (by omega) rfl ⟨_,_,rfl,rfl,rfl⟩ ?_)|refine zb3 rfl rfl rfl ⟨_,_,rfl,rfl,rfl⟩ ?_|refine VM rfl rfl rfl (by decide) rfl ⟨_,_,rfl,rfl,rfl⟩ ?_|refine XV rfl rfl (by first|exact List.length_map _|exact (List.length_map _).symm|exact List.length_replicate|rfl|(simp;done)|omega|(simp;omega)) rfl ⟨_,_,rfl,rfl,rfl⟩ ?_|refine zb8 rfl rfl rfl ⟨_,_,rfl,rfl,rfl⟩ ?_|refine zi5 rfl rfl rfl ⟨_,_,rfl,rfl,rfl⟩ ?_|refine zgy rfl rfl ⟨_,_,rfl,rfl,rfl⟩ ?_|refine zgz rfl rfl ⟨_,_,rfl,rfl,rfl⟩ ?_)|refine WH.nil ?_|refine WH.one rfl rfl rfl rfl rfl ?_));exact h.out):Q:=f ⟨h⟩
theorem yf {P Q:Prop} (h:P) (f:zfw P→Q:=by intro h;(repeat (first|refine FW.seq ?_|refine FW.region ?_|refine FW.block ?_|refine FW.skip ?_|refine FW.exit ?_|refine FW.condT rfl ?_|refine zi.nil ?_|(refine ziv ?_;first|refine zO rfl rfl rfl ?_|refine zgu rfl rfl rfl rfl rfl rfl rfl ?_)|refine FW.draw ?_|refine zK.nil ?_|(refine zhu ?_;first|refine Zh rfl rfl rfl ?_|refine Vy rfl rfl rfl ?_|(refine VC ?_;first|refine zaI rfl rfl rfl (by first|omega|(simp;omega)|(simp;done)) (by first|exact zU (by omega)|rfl) rfl rfl rfl rfl ?_|refine xE rfl rfl rfl rfl rfl (by first|omega|(simp;omega)|(simp;done)) (by first|exact zU (by omega)|rfl) rfl rfl rfl rfl ?_|refine zbW rfl rfl rfl (by decide) (by first|omega|(simp;omega)|(simp;done)) (by first|exact zU (by omega)|rfl) rfl rfl rfl ?_|refine zbY rfl rfl rfl (by decide) rfl rfl (by first|omega|(simp;omega)|(simp;done)) (by first|exact zU (by omega)|rfl) rfl rfl rfl ?_|refine zdS rfl rfl rfl rfl rfl rfl rfl ?_)|(refine UT ?_;first|refine zeP rfl rfl rfl rfl rfl rfl rfl rfl rfl ?_|refine VD rfl rfl rfl rfl rfl rfl (by first|omega|(simp;omega)|(simp;done)) (by first|exact zU (by omega)|rfl) rfl rfl rfl ?_|refine UU rfl rfl rfl rfl rfl rfl (by decide) (by first|omega|(simp;omega)|(simp;done)) rfl ?_)|(refine UR ?_;first|refine VA rfl rfl rfl rfl rfl rfl rfl ?_|refine Zp rfl rfl rfl rfl rfl rfl (by decide) rfl rfl ?_)|(refine US ?_;first|refine VB rfl rfl (by first|rfl|exact (Int.toNat_of_nonneg (by omega)).symm) rfl rfl rfl (by first|omega|(simp;omega)|(simp;done)) rfl rfl ?_|refine Zq rfl rfl (by first|rfl|exact (Int.toNat_of_nonneg (by omega)).symm) rfl rfl rfl (by decide) rfl (by first|omega|(simp;omega)|(simp;done)) rfl rfl ?_)|(refine zdR ?_;first|refine zgn rfl rfl rfl rfl ?_|refine zgm rfl rfl rfl rfl ?_|refine ziY rfl rfl rfl rfl ?_|refine zi0 rfl rfl (by omega) rfl rfl ?_)|refine zhp rfl rfl rfl rfl rfl rfl rfl ?_|refine zeM rfl rfl rfl rfl rfl rfl rfl rfl rfl ?_|refine Zo rfl rfl rfl rfl rfl rfl rfl rfl ?_|refine Vz rfl rfl rfl rfl rfl rfl rfl rfl rfl rfl ?_|refine zgo rfl rfl rfl rfl (by decide) rfl (by first|exact LoR.none|exact LoR.some rfl|exact LoR.lit rfl (by first|rfl|exact (Int.toNat_of_nonneg (by omega)).symm)) (by first|exact HiR.none|exact HiR.some rfl|exact HiR.lit rfl (by first|rfl|exact (Int.toNat_of_nonneg (by omega)).symm)) (by first|omega|(simp;omega)|(simp;done)) (by first|omega|(simp;omega)|(simp;done)) rfl rfl ?_|refine zio rfl rfl (by decide) rfl rfl ?_|refine zeQ rfl rfl rfl (by kernel_rfl) rfl rfl ?_|refine zim rfl rfl rfl rfl rfl (by first|exact xV.own rfl rfl (by decide) (by first|exact List.length_map _|exact (List.length_map _).symm|exact List.length_replicate|rfl|(simp;done)|omega|(simp;omega))|exact xV.list rfl|exact xV.nil rfl|exact xV.part rfl rfl (by decide)) rfl rfl ?_|refine zaH rfl rfl (by first|exact List.length_map _|exact (List.length_map _).symm|exact List.length_replicate|rfl|(simp;done)|omega|(simp;omega)) rfl rfl rfl (by decide) (by first|exact xV.own rfl rfl (by decide) (by first|exact List.length_map _|exact (List.length_map _).symm|exact List.length_replicate|rfl|(simp;done)|omega|(simp;omega))|exact xV.list rfl|exact xV.nil rfl|exact xV.part rfl rfl (by decide)) (by first|omega|(simp;omega)|(simp;done)) (by first|omega|(simp;omega)|(simp;done)) rfl rfl rfl ?_|refine zgl rfl rfl rfl (by decide) rfl rfl ?_)));exact h.out):Q:=f ⟨h⟩
theorem zw {P Q:Prop} (h:P) (f:zfw P→Q:=by intro h;(repeat (first|refine WH.nil ?_|refine WH.one rfl rfl rfl rfl rfl ?_|refine zK.nil ?_|(refine zhu ?_;first|refine Zh rfl rfl rfl ?_|refine Vy rfl rfl rfl ?_|(refine VC ?_;first|refine zaI rfl rfl rfl (by first|omega|(simp;omega)|(simp;done)) (by first|exact zU (by omega)|rfl) rfl rfl rfl rfl ?_|refine xE rfl rfl rfl rfl rfl (by first|omega|(simp;omega)|(simp;done)) (by first|exact zU (by omega)|rfl) rfl rfl rfl rfl ?_)|(refine UT ?_;first|refine zgp rfl rfl rfl rfl rfl rfl rfl rfl rfl ?_|refine VD rfl rfl rfl rfl rfl rfl (by first|omega|(simp;omega)|(simp;done)) (by first|exact zU (by omega)|rfl) rfl rfl rfl ?_)|(refine UR ?_;first|refine VA rfl rfl rfl rfl rfl rfl rfl ?_|refine Zp rfl rfl rfl rfl rfl rfl (by decide) rfl rfl ?_)|(refine US ?_;first|refine VB rfl rfl (by first|rfl|exact (Int.toNat_of_nonneg (by omega)).symm) rfl rfl rfl (by first|omega|(simp;omega)|(simp;done)) rfl rfl ?_|refine Zq rfl rfl (by first|rfl|exact (Int.toNat_of_nonneg (by omega)).symm) rfl rfl rfl (by decide) rfl (by first|omega|(simp;omega)|(simp;done)) rfl rfl ?_)|(refine zbV ?_;first|refine zdV rfl rfl rfl rfl ?_|refine zdU rfl rfl rfl rfl ?_)|refine zgm rfl rfl rfl rfl ?_|refine zgj rfl rfl rfl rfl ?_|refine Zo rfl rfl rfl rfl rfl rfl rfl rfl ?_|refine Vz rfl rfl rfl rfl rfl rfl rfl rfl rfl rfl ?_|refine zaH rfl rfl (by first|exact List.length_map _|exact (List.length_map _).symm|exact List.length_replicate|rfl|(simp;done)|omega|(simp;omega)) rfl rfl rfl (by decide) (by first|exact xV.own rfl rfl (by decide) (by first|exact List.length_map _|exact (List.length_map _).symm|exact List.length_replicate|rfl|(simp;done)|omega|(simp;omega))|exact xV.list rfl|exact xV.nil rfl|exact xV.part rfl rfl (by decide)) (by first|omega|(simp;omega)|(simp;done)) (by first|omega|(simp;omega)|(simp;done)) rfl rfl rfl ?_)|(refine zjn ?_;first|refine Zh rfl rfl ⟨_,_,rfl,rfl,rfl⟩ ?_|(refine VC ?_;first|refine zaI rfl rfl rfl (by first|omega|(simp;omega)|(simp;done)) (by first|exact zU (by omega)|rfl) rfl rfl rfl ⟨_,_,rfl,rfl,rfl⟩ ?_|refine zbW rfl rfl rfl (by decide) (by first|omega|(simp;omega)|(simp;done)) (by first|exact zU (by omega)|rfl) rfl rfl ⟨_,_,rfl,rfl,rfl⟩ ?_|refine zbY rfl rfl rfl (by decide) rfl rfl (by first|omega|(simp;omega)|(simp;done)) (by first|exact zU (by omega)|rfl) rfl rfl ⟨_,_,rfl,rfl,rfl⟩ ?_)|refine VA rfl rfl rfl rfl rfl rfl ⟨_,_,rfl,rfl,rfl⟩ ?_|refine VB rfl rfl (by first|rfl|exact (Int.toNat_of_nonneg (by omega)).symm) rfl rfl rfl (by first|omega|(simp;omega)|(simp;done)) rfl ⟨_,_,rfl,rfl,rfl⟩ ?_|(refine zbV ?_;first|refine zdV rfl rfl rfl ⟨_,_,rfl,rfl,rfl⟩ ?_|refine zdU rfl rfl rfl ⟨_,_,rfl,rfl,rfl⟩ ?_)|(refine zdR ?_;first|refine ziX rfl rfl rfl ⟨_,_,rfl,rfl,rfl⟩ ?_|refine zgn rfl rfl rfl ⟨_,_,rfl,rfl,rfl⟩ ?_|refine zgm rfl rfl rfl ⟨_,_,rfl,rfl,rfl⟩ ?_)|refine ziZ rfl rfl ⟨_,_,rfl,rfl,rfl⟩ ?_|refine zip rfl rfl ⟨_,_,rfl,rfl,rfl⟩ ?_)));exact h.out):Q:=f ⟨h⟩
theorem YW {P Q:Prop} (h:P) (f:zfw P→Q:=by intro h;(repeat (first|refine zi.nil ?_|(refine ziv ?_;first|refine zG rfl rfl rfl ?_|refine Xs rfl rfl rfl (by first|omega|(simp;omega)|(simp;done)) (by first|exact zU (by omega)|rfl) rfl rfl rfl rfl ?_|refine Xt rfl rfl rfl rfl rfl rfl (by first|omega|(simp;omega)|(simp;done)) (by first|exact zU (by omega)|rfl) rfl rfl rfl ?_|refine VL rfl rfl rfl rfl rfl rfl (by decide) rfl rfl ?_|(refine XU ?_;first|refine Yc rfl rfl (by first|rfl|exact (Int.toNat_of_nonneg (by omega)).symm) rfl rfl rfl (by first|omega|(simp;omega)|(simp;done)) rfl rfl ?_|refine yY rfl rfl (by first|rfl|exact (Int.toNat_of_nonneg (by omega)).symm) rfl rfl rfl (by decide) rfl (by first|omega|(simp;omega)|(simp;done)) rfl rfl ?_)|refine WE rfl rfl rfl rfl ?_|refine zgB rfl rfl (by omega) rfl rfl ?_)|(refine zi3 ?_;first|refine zgy rfl rfl ⟨_,_,rfl,rfl,rfl⟩ ?_)));exact h.out):Q:=f ⟨h⟩
theorem zgY {P:Prop} (h:P:=by repeat (first|exact yV.nil|refine yV.cons (.plain rfl rfl) ?_|refine yV.cons (.ptr (.head _) rfl) ?_|refine yV.cons (.own (.head _) rfl rfl rfl) ?_|refine yV.cons (.omap (.head _) rfl) ?_|refine yV.cons (.ptr (.tail _ (.head _)) rfl) ?_|refine yV.cons (.own (.tail _ (.head _)) rfl rfl rfl) ?_|refine yV.cons (.omap (.tail _ (.head _)) rfl) ?_|refine yV.cons (.ptr (.tail _ (.tail _ (.head _))) rfl) ?_|refine yV.cons (.own (.tail _ (.tail _ (.head _))) rfl rfl rfl) ?_|refine yV.cons (.omap (.tail _ (.tail _ (.head _))) rfl) ?_|refine yV.cons (.ptr (.tail _ (.tail _ (.tail _ (.head _)))) rfl) ?_|refine yV.cons (.own (.tail _ (.tail _ (.tail _ (.head _)))) rfl rfl rfl) ?_|refine yV.cons (.omap (.tail _ (.tail _ (.tail _ (.head _)))) rfl) ?_|refine yV.cons (.ptr (.tail _ (.tail _ (.tail _ (.tail _ (.head _))))) rfl) ?_|refine yV.cons (.own (.tail _ (.tail _ (.tail _ (.tail _ (.head _))))) rfl rfl rfl) ?_|refine yV.cons (.omap (.tail _ (.tail _ (.tail _ (.tail _ (.head _))))) rfl) ?_)):P:=h
theorem zgX {P:Prop} (h:P:=by repeat (first|exact yV.nil|refine yV.cons (.plain rfl rfl) ?_|refine yV.cons (.own (.head _) rfl (by first|rfl|(simp;done)|(congr 1;omega)|(simp;omega)|(simp [List.take_of_length_le];done)|(refine congrArg (FV.int .i64) ?_;omega)) (by first|rfl|(simp;done)|(congr 1;omega)|(simp;omega)|(simp [List.take_of_length_le];done)|(refine congrArg (FV.int .i64) ?_;omega))) ?_|refine yV.cons (.nil (.head _) rfl) ?_|refine yV.cons (.own (.tail _ (.head _)) rfl (by first|rfl|(simp;done)|(congr 1;omega)|(simp;omega)|(simp [List.take_of_length_le];done)|(refine congrArg (FV.int .i64) ?_;omega)) (by first|rfl|(simp;done)|(congr 1;omega)|(simp;omega)|(simp [List.take_of_length_le];done)|(refine congrArg (FV.int .i64) ?_;omega))) ?_|refine yV.cons (.own (.tail _ (.tail _ (.head _))) rfl (by first|rfl|(simp;done)|(congr 1;omega)|(simp;omega)|(simp [List.take_of_length_le];done)|(refine congrArg (FV.int .i64) ?_;omega)) (by first|rfl|(simp;done)|(congr 1;omega)|(simp;omega)|(simp [List.take_of_length_le];done)|(refine congrArg (FV.int .i64) ?_;omega))) ?_|refine yV.cons (.nil (.tail _ (.tail _ (.head _))) rfl) ?_)):P:=h
theorem zid {P:Prop} (h:P:=by repeat (first|exact .nil|refine .cons (.nil (.head _) rfl) ?_|refine .cons (.own (.tail _ (.head _)) rfl (by first|rfl|(simp;done)|(congr 1;omega)|(simp;omega)|(simp [List.take_of_length_le];done)|(refine congrArg (FV.int .i64) ?_;omega)) (by first|rfl|(simp;done)|(congr 1;omega)|(simp;omega)|(simp [List.take_of_length_le];done)|(refine congrArg (FV.int .i64) ?_;omega))) ?_|refine .cons (.ptr (.tail _ (.tail _ (.head _))) rfl) ?_|refine .cons (.own (.tail _ (.tail _ (.tail _ (.head _)))) rfl (by first|rfl|(simp;done)|(congr 1;omega)|(simp;omega)|(simp [List.take_of_length_le];done)|(refine congrArg (FV.int .i64) ?_;omega)) (by first|rfl|(simp;done)|(congr 1;omega)|(simp;omega)|(simp [List.take_of_length_le];done)|(refine congrArg (FV.int .i64) ?_;omega))) ?_|refine .cons (.ptr (.tail _ (.tail _ (.tail _ (.head _)))) rfl) ?_|refine .cons (.own (.tail _ (.tail _ (.tail _ (.tail _ (.head _))))) rfl (by first|rfl|(simp;done)|(congr 1;omega)|(simp;omega)|(simp [List.take_of_length_le];done)|(refine congrArg (FV.int .i64) ?_;omega)) (by first|rfl|(simp;done)|(congr 1;omega)|(simp;omega)|(simp [List.take_of_length_le];done)|(refine congrArg (FV.int .i64) ?_;omega))) ?_)):P:=h
theorem zd {P:Prop} (h:P:=by repeat (first|exact .nil|refine .cons (.plain rfl rfl (by first|rfl|(simp;done)|(congr 1;omega)|(simp;omega)|(simp [List.take_of_length_le];done)|(refine congrArg (FV.int .i64) ?_;omega))) ?_|refine .cons (.own rfl (.head _) rfl (by first|rfl|(simp;done)|(congr 1;omega)|(simp;omega)|(simp [List.take_of_length_le];done)|(refine congrArg (FV.int .i64) ?_;omega))) ?_|refine .cons (.nil rfl (.head _) rfl) ?_|refine .cons (.ptr rfl (.head _) rfl) ?_|refine .cons (.omap rfl (.head _) rfl) ?_|refine .cons (.own rfl (.tail _ (.head _)) rfl (by first|rfl|(simp;done)|(congr 1;omega)|(simp;omega)|(simp [List.take_of_length_le];done)|(refine congrArg (FV.int .i64) ?_;omega))) ?_|refine .cons (.ptr rfl (.tail _ (.head _)) rfl) ?_|refine .cons (.own rfl (.tail _ (.tail _ (.head _))) rfl (by first|rfl|(simp;done)|(congr 1;omega)|(simp;omega)|(simp [List.take_of_length_le];done)|(refine congrArg (FV.int .i64) ?_;omega))) ?_|refine .cons (.nil rfl (.tail _ (.tail _ (.head _))) rfl) ?_|refine .cons (.ptr rfl (.tail _ (.tail _ (.head _))) rfl) ?_|refine .cons (.own rfl (.tail _ (.tail _ (.tail _ (.head _)))) rfl (by first|rfl|(simp;done)|(congr 1;omega)|(simp;omega)|(simp [List.take_of_length_le];done)|(refine congrArg (FV.int .i64) ?_;omega))) ?_|refine .cons (.nil rfl (.tail _ (.tail _ (.tail _ (.head _)))) rfl) ?_|refine .cons (.nilList rfl) ?_|refine .cons (.wrap rfl zgY) ?_)):P:=h
theorem zf {P:Prop} (h:P:=by repeat (first|exact .nil|refine .old rfl (by decide) (by first|rfl|(simp;done)|(congr 1;omega)|(simp;omega)|(simp [List.take_of_length_le];done)|(refine congrArg (FV.int .i64) ?_;omega)) ?_|refine .oldH rfl zid ?_|refine .oldK rfl (zgQ.cons zgX rfl zgQ.nil) ?_|refine .new ?_)):P:=h
theorem yN {P:Prop} (h:P:=by repeat (first|exact zx.nil|refine zx.cons (by first|exact zcu.plain rfl rfl|exact zcu.own rfl rfl (by decide) (by first|exact (fun _=>rfl)|(intro h;cases h)) (by first|rfl|(simp;done)|(congr 1;omega)|(simp;omega)|(simp [List.take_of_length_le];done)|(refine congrArg (FV.int .i64) ?_;omega))|exact zcu.nil rfl|exact zcu.sub rfl rfl (by repeat (first|exact FV.le.refl _|exact FV.le.nil _|refine FV.le.agg ?_|refine FV.le.tup ?_|exact LeL.nil|refine LeL.cons ?_ ?_|exact FV.le.undef _))|exact zcu.part rfl rfl (by decide) (by first|exact (fun _=>rfl)|(intro h;cases h))) ?_)):P:=h
theorem Yk {P:Prop} (h:P:=by first|omega|(simp;omega)|(simp;done)):P:=h
theorem xZ {P:Prop} (h:P:=by first|exact zU (by omega)|rfl):P:=h
theorem zT {P:Prop} (h:P:=by simp [Op.operands,Call.operands]):P:=h
theorem zp {P:Prop} (h:P:=by exact Nat.le_of_ble_eq_true rfl):P:=h
theorem yv {P:Prop} (h:P:=by first|omega|(simp;omega)):P:=h
theorem zu {P:Prop} (h:P:=by repeat (first|exact .nil)):P:=h
theorem zt {P:Prop} (h:P:=by exact zcu.plain rfl rfl):P:=h
theorem zh {P:Prop} (h:P:=by simp [Op.operands]):P:=h
theorem zC {P:Prop} (h:P:=by simp [FV.hand]):P:=h
theorem zI {P:Prop} (h:P:=by simp;omega):P:=h
theorem zA {P:Prop} (h:P:=by kernel_rfl):P:=h
theorem zg {P:Prop} (h:P:=by decide):P:=h
theorem zb {P:Prop} (h:P:=by omega):P:=h
theorem zc {P:Prop} (h:P:=by simp):P:=h
def flat {α:Type} (vals:α→List Value) (l:List α):List Value:=l.flatMap vals
section
variable {α:Type} {sz:Nat} {vals:α→List Value}
def Sl (vals:α→List Value) (w:World) (B:Nat) (A:Option Addr) (l:List α):Prop:=
 l≠[]→∃ b off,A=some ⟨b,off,none⟩∧b<B∧∀ j u,(flat vals l)[j]? = some u→w.cell? ⟨b,off+j,none⟩=some u
variable {w w' : World} {B B' : Nat} {A:Option Addr} {l:List α}
theorem Sl.nil_ (vals:α→List Value) (w:World) (B:Nat) (A:Option Addr):Sl vals w B A []:=fun h=>absurd rfl h
theorem zdO {base base' : Nat} {e:TypeId} {v:Value} {n:Nat} {xs:List Value} (h:w.ownsRow base e sz v n xs) (hb:base'≤base):w.ownsRow base' e sz v n xs:=by
 refine ⟨h.1,?_⟩;rcases h.2 with hn|⟨g,cap,cur,rfl,hb',r⟩
 ·exact .inl hn
 ·exact .inr ⟨g,cap,cur,rfl,by omega,r⟩
end
section
variable {w w' : World} {g:Nat} {t:TypeId} {cs:List Value}
end
def nth {α:Type} [Inhabited α] (l:List α) (i:Nat):α:=l.getD i default
theorem nth_eq {α:Type} [Inhabited α] {l:List α} {i:Nat} (h:i<l.length):nth l i=l[i]:=by simp [nth,h]
theorem yz {α:Type} [Inhabited α] {l m:List α} {i:Nat} (h:i<l.length):nth (l++m) i=nth l i:=by
 rw [nth_eq h,nth_eq zI,List.getElem_append_left h]
theorem zL {α:Type} [Inhabited α] {l:List α} {i:Nat} (h:i<l.length):nth l i∈l:=by rw [nth_eq h];exact List.getElem_mem h
theorem Zg {α:Type} [Inhabited α] {l:List α} {a:α}:nth (l++[a]) l.length=a:=by rw [nth_eq zc];simp
theorem zR {α:Type} [Inhabited α] {l:List α} {i:Nat} {a:α} (h:i<l.length):nth (l.set i a) i=a:=by rw [nth_eq (by simpa using h),List.getElem_set_self]
theorem zH {α:Type} [Inhabited α] {l:List α} {i j:Nat} {a:α} (h:i≠j):nth (l.set i a) j=nth l j:=by
 simp only [nth,List.getD_eq_getElem?_getD,List.getElem?_set_ne h]
def I64 (x:Int):Prop:=-9223372036854775808≤x∧x≤9223372036854775807
theorem Yj (x:Int) (h:I64 x):IntKind.i64.wrap x=x:=by
 unfold I64 at h;rw [IntKind.wrap_i64];omega
theorem zfn (x:Int) (h1:-1000000000000≤x) (h2:x≤1000000000000):IntKind.i64.wrap x=x:=Yj x ⟨by omega,by omega⟩
inductive Wk where
 | fn (f:Nat)|bound (f:Nat)|agg|tup|ifc (t:Nat)|agt (n:Nat)
 deriving Inhabited,DecidableEq
inductive FV where
 | undef
 | int (k:IntKind) (n:Int)
 | bool (b:Bool)
 | str (s:ByteArray)
 | nil
 | nilm
 | list (sz:Nat) (es:List (List FV))
 | eptr (sz:Nat) (es:List (List FV)) (i off:Nat)
 | agg (cs:List FV)
 | tup (vs:List FV)
 | own (id ver o n:Nat)
 | ptr (id ver i off:Nat)
 | omap (id ver:Nat)
 | smap (es:List (List FV))
 | fn (f:Nat) (caps:List FV)
 | iface (t:Nat) (f:FV)
 | wrap (k:Wk) (fs:List FV)
 | perm (sz:Nat) (es:List (List FV))
 | bnd (f:Nat) (caps:List FV)
 deriving Inhabited
def Wk.mk:Wk→List Value→Value
 | .fn f, us => .func (.func f) #[] us.toArray
 | .bound f, us => .func (.func f) us.toArray #[]
 | .agg, us => .agg us.toArray
 | .tup, us => .tuple us.toArray
 | .ifc t, us => .iface t (us.headD .nilFunc)
 | .agt n, us => .tuple (.agg (us.take n).toArray :: us.drop n).toArray
def FV.one:FV→Bool
 | .int _ _|.bool _|.str _|.nil|.nilm|.list _ _|.smap _|.fn _ _|.iface _ _|.bnd _ _|.eptr _ _ _ _ => true
 | _ => false
def FV.val1:FV→Value
 | .int k n => .int k n
 | .bool b => .bool b
 | .str s => .string s
 | _ => .nilFunc
def FV.val:FV→Value
 | .agg cs => .agg (cs.map FV.val1).toArray
 | f => f.val1
def FV.simple1:FV→Bool
 | .int _ _|.bool _|.str _ => true
 | _ => false
def FV.simple:FV→Bool
 | .agg cs => cs.all FV.simple1
 | f => f.simple1
inductive Rd (w:World) (I:Nat→Prop):Value→FV→Prop where
 | undef (v:Value):Rd w I v .undef
 | int (k:IntKind) (n:Int):Rd w I (.int k n) (.int k n)
 | bool (b:Bool):Rd w I (.bool b) (.bool b)
 | str (s:ByteArray):Rd w I (.string s) (.str s)
 | nil:Rd w I (.slice none 0 0) .nil
 | nilm:Rd w I (.map none) .nilm
 | list (A:Option Addr) (n c sz:Nat) (es:List (List FV)) (us:List Value) (hn:es.length=n) (hc:n≤c) (he:∀ e∈es,e.length=sz) (ho:∀ f∈es.flatten,f.one=true)
   (hA:n≠0→∃ b off,A=some ⟨b,off,none⟩∧I b∧∀ (j:Nat) u,us[j]? = some u→w.cell? ⟨b,off+j,none⟩=some u)
   (hl:us.length=es.flatten.length) (hr:∀ (j:Nat) u f,us[j]? = some u→es.flatten[j]? = some f→Rd w I u f):Rd w I (.slice A n c) (.list sz es)
 | eptr (b off sz:Nat) (es:List (List FV)) (i o:Nat) (us:List Value) (hI:I b) (he:∀ e∈es,e.length=sz) (ho:∀ f∈es.flatten,f.one=true)
   (hA:∀ (j:Nat) u,us[j]? = some u→w.cell? ⟨b,off+j,none⟩=some u)
   (hl:us.length=es.flatten.length) (hr:∀ (j:Nat) u f,us[j]? = some u→es.flatten[j]? = some f→Rd w I u f):Rd w I (.pointer (some ⟨b,off+(i * sz+o),none⟩)) (.eptr sz es i o)
 | smap (b clock:Nat) (ents:Array MapEntry) (es:List (List FV)) (hI:I b) (hb:w.heap[b]? = some (.map ents clock)) (hst:MapKept.Stamped ents clock) (hl:ents.size=es.length)
   (hk:∀ (j:Nat) e row,ents[j]? = some e→es[j]? = some row→∃ kf vf,row=[kf,vf]∧kf.simple=true∧e.key=kf.val)
   (hr:∀ (j:Nat) e row f,ents[j]? = some e→es[j]? = some row→row[1]? = some f→Rd w I e.val f):Rd w I (.map (some b)) (.smap es)
 | fn (f:Nat) (us:List Value) (fs:List FV) (hl:us.length=fs.length) (hr:∀ (j:Nat) u g, us[j]? = some u → fs[j]? = some g → Rd w I u g):Rd w I (.func (.func f) #[] us.toArray) (.fn f fs)
 | iface (t:Nat) (v:Value) (f:FV) (hr:Rd w I v f):Rd w I (.iface t v) (.iface t f)
 | agg (us:List Value) (fs:List FV) (hl:us.length=fs.length) (hr:∀ (j:Nat) u f, us[j]? = some u → fs[j]? = some f → Rd w I u f):Rd w I (.agg us.toArray) (.agg fs)
 | tup (us:List Value) (fs:List FV) (hl:us.length=fs.length) (hr:∀ (j:Nat) u f, us[j]? = some u → fs[j]? = some f → Rd w I u f):Rd w I (.tuple us.toArray) (.tup fs)
 | bnd (f:Nat) (us:List Value) (fs:List FV) (hl:us.length=fs.length) (hr:∀ (j:Nat) u g, us[j]? = some u → fs[j]? = some g → Rd w I u g):Rd w I (.func (.func f) us.toArray #[]) (.bnd f fs)
 | perm (v:Value) (sz:Nat) (es es' : List (List FV)) (hp:es'.Perm es) (hr:Rd w I v (.list sz es')):Rd w I v (.perm sz es)
def RdL (w:World) (I:Nat→Prop) (us:List Value) (fs:List FV):Prop:=us.length=fs.length∧∀ (j:Nat) u f,us[j]? = some u→fs[j]? = some f→Rd w I u f
theorem Rd.mono {w w' : World} {I I' : Nat→Prop} (hI:∀ b,I b→I' b∧w'.heap[b]? = w.heap[b]?) {v:Value} {f:FV} (h:Rd w I v f):Rd w' I' v f:=by
 induction h with
 | undef v => exact .undef v
 | int k n => exact .int k n
 | bool b => exact .bool b
 | str s => exact .str s
 | nil => exact .nil
 | nilm => exact .nilm
 | list A n c sz es us hn hc he ho hA hl hr ih =>
  refine .list A n c sz es us hn hc he ho (fun h0=>?_) hl ih;obtain ⟨b,off,ha,hb,hcell⟩:=hA h0;exact ⟨b,off,ha,(hI b hb).1,fun j u hu=>(World.cell?_of_block (w:=w) (w':=w') (a:=⟨b,off+j,none⟩) (hI b hb).2).trans (hcell j u hu)⟩
 | eptr b off sz es i o us hb he ho hA hl hr ih =>
  exact .eptr b off sz es i o us (hI b hb).1 he ho (fun j u hu=>(World.cell?_of_block (w:=w) (w':=w') (a:=⟨b,off+j,none⟩) (hI b hb).2).trans (hA j u hu)) hl ih
 | smap b clock ents es hb hbl hst hl hk hr ih => exact .smap b clock ents es (hI b hb).1 ((hI b hb).2.trans hbl) hst hl hk ih
 | agg us fs hl hr ih => exact .agg us fs hl ih
 | iface t v f hr ih => exact .iface t v f ih
 | fn f us fs hl hr ih => exact .fn f us fs hl ih
 | tup us fs hl hr ih => exact .tup us fs hl ih
 | bnd f us fs hl hr ih => exact .bnd f us fs hl ih
 | perm v sz es es' hp hr ih => exact .perm v sz es es' hp ih
theorem RdL.mono {w w' : World} {I I' : Nat→Prop} (hI:∀ b,I b→I' b∧w'.heap[b]? = w.heap[b]?) {us:List Value} {fs:List FV} (h:RdL w I us fs):RdL w' I' us fs:=
 ⟨h.1,fun j u f hu hf=>(h.2 j u f hu hf).mono hI⟩
theorem RdL.nil {w:World} {I:Nat→Prop}:RdL w I [] []:=⟨rfl,fun j u f hu=>by simp at hu⟩
theorem RdL.append {w:World} {I:Nat→Prop} {us vs:List Value} {fs gs:List FV} (h:RdL w I us fs) (k:RdL w I vs gs):RdL w I (us++vs) (fs++gs):=by
 refine ⟨by simp [h.1,k.1],fun j u f hu hf=>?_⟩;rcases Nat.lt_or_ge j us.length with hj|hj
 ·rw [List.getElem?_append_left hj] at hu;rw [List.getElem?_append_left (by rw [← h.1];exact hj)] at hf;exact h.2 j u f hu hf
 ·rw [List.getElem?_append_right hj] at hu;rw [List.getElem?_append_right (by rw [← h.1];exact hj),← h.1] at hf;exact k.2 _ u f hu hf
theorem RdL.cons {w:World} {I:Nat→Prop} {u:Value} {us:List Value} {f:FV} {fs:List FV} (h:Rd w I u f) (k:RdL w I us fs):RdL w I (u::us) (f::fs):=by
 refine ⟨by simp [k.1],fun j u' f' hu hf=>?_⟩;cases j with
 | zero => simp at hu hf; subst hu; subst hf; exact h
 | succ j => simp at hu hf; exact k.2 j u' f' hu hf
theorem RdL.take {w:World} {I:Nat→Prop} {us:List Value} {fs:List FV} (h:RdL w I us fs) (n:Nat):RdL w I (us.take n) (fs.take n):=by
 refine ⟨by simp [h.1],fun j u f hu hf=>?_⟩;rw [List.getElem?_take] at hu hf;split at hu
 ·rename_i hj;rw [if_pos hj] at hf;exact h.2 j u f hu hf
 ·cases hu
theorem RdL.drop {w:World} {I:Nat→Prop} {us:List Value} {fs:List FV} (h:RdL w I us fs) (n:Nat):RdL w I (us.drop n) (fs.drop n):=by
 refine ⟨by simp [h.1],fun j u f hu hf=>?_⟩;rw [List.getElem?_drop] at hu hf;exact h.2 _ u f hu hf
inductive zX where
 | dead|own|shut|mapo|maps|hrow|roomy|full|hmap
 deriving DecidableEq,Inhabited
def zX.row:zX→Bool
 | .own|.shut|.roomy|.full => true
 | _ => false
def zX.slic:zX→Bool
 | .own|.shut|.roomy|.full|.hrow => true
 | _ => false
def zX.mine:zX→Bool
 | .own|.mapo|.roomy|.full|.hrow|.hmap => true
 | _ => false
theorem zX.row_ne {l:zX} (h:l.row=true):l≠.dead:=by rintro rfl;cases h
theorem zX.row_slic {l:zX} (h:l.row=true):l.slic=true:=by cases l <;> first|rfl|cases h
theorem zX.mine_ne {l:zX} (h:l.mine=true):l≠.dead:=by rintro rfl;cases h
structure zn where
 ver:Nat:=0
 life:zX:=.dead
 E:TypeId:=0
 sz:Nat:=0
 es:List (List FV):=[]
 deriving Inhabited
def look {α:Type} (d:α):List (Nat×α)→Nat→α
 | [], _ => d
 | (i, a) :: l, k => bif Nat.beq i k then a else look d l k
theorem zE {α:Type} (d:α) (i:Nat) (a:α) (l:List (Nat×α)) (k:Nat):look d ((i,a)::l) k=if i=k then a else look d l k:=by
 show (bif Nat.beq i k then a else look d l k)=_;by_cases h:i=k
 ·subst h;simp
 ·have hb:Nat.beq i k=false:=by
   cases hb:Nat.beq i k with
   | true => exact absurd (Nat.eq_of_beq_eq_true hb) h
   | false => rfl
  rw [hb,if_neg h];rfl
structure FSt where
 t:List (Nat×FV)
 o:List (Nat×zn)
def FSt.get (s:FSt) (d:Nat):FV:=look .undef s.t d
def FSt.ob (s:FSt) (id:Nat):zn:=look {} s.o id
def FSt.put (s:FSt) (d:Nat) (v:FV):FSt:=⟨(d,v)::s.t,s.o⟩
def FSt.set (s:FSt) (id:Nat) (b:zn):FSt:=⟨s.t,(id,b)::s.o⟩
theorem FSt.get_put (s:FSt) (d:Nat) (v:FV) (k:Nat):(s.put d v).get k=if d=k then v else s.get k:=zE _ _ _ _ _
theorem FSt.ob_set (s:FSt) (d:Nat) (b:zn) (k:Nat):(s.set d b).ob k=if d=k then b else s.ob k:=zE _ _ _ _ _
structure YC (w:World) (βid:Option Nat) (ob:zn) (v:Value) (o n:Nat):Prop where
 row:ob.life.slic=true
 ex:∃ A c,v=.slice A n c∧n≤c∧o+n≤ob.es.length∧(βid=none→A=none∧c=0)∧
  ∀ b,βid=some b→∃ o',A=some ⟨b,o',none⟩∧(c≠0∨o=0→o'=o * ob.sz)∧∀ cur,w.heap[b]? = some (.cells cur ob.E (0,0))→cur.size=(o+c) * ob.sz
def VR1 (w:World) (I:Nat→Prop) (β:Nat→Option Nat) (s:FSt) (v:Value):FV→Prop
 | .own id ver o n => (s.ob id).life ≠ .dead → (s.ob id).ver=ver → YC w (β id) (s.ob id) v o n
 | .ptr id ver i off => (s.ob id).life ≠ .dead → (s.ob id).ver=ver → (s.ob id).life.slic=true ∧ ∃ b, β id=some b ∧ v=.pointer (some ⟨b, i * (s.ob id).sz+off, none⟩)
 | .omap id ver => (s.ob id).life ≠ .dead → (s.ob id).ver=ver → (s.ob id).life.slic=false ∧ ∃ b, β id=some b ∧ v=.map (some b)
 | f => Rd w I v f
def VR (w:World) (I:Nat→Prop) (β:Nat→Option Nat) (s:FSt) (v:Value):FV→Prop
 | .own id ver o n => (s.ob id).life ≠ .dead → (s.ob id).ver=ver → YC w (β id) (s.ob id) v o n
 | .ptr id ver i off => (s.ob id).life ≠ .dead → (s.ob id).ver=ver → (s.ob id).life.slic=true ∧ ∃ b, β id=some b ∧ v=.pointer (some ⟨b, i * (s.ob id).sz+off, none⟩)
 | .omap id ver => (s.ob id).life ≠ .dead → (s.ob id).ver=ver → (s.ob id).life.slic=false ∧ ∃ b, β id=some b ∧ v=.map (some b)
 | .wrap k fs => ∃ us:List Value, v=k.mk us ∧ us.length=fs.length ∧ ∀ (j:Nat) u f, us[j]? = some u → fs[j]? = some f → VR1 w I β s u f
 | f => Rd w I v f
def FV.hand:FV→Option (Nat×Nat)
 | .own id ver _ _ => some (id, ver)
 | .ptr id ver _ _ => some (id, ver)
 | .omap id ver => some (id, ver)
 | .wrap _ _ => some (0, 0)
 | _ => none
def FV.hands:FV→List (Nat×Nat)
 | .own id ver _ _ => [(id, ver)]
 | .ptr id ver _ _ => [(id, ver)]
 | .omap id ver => [(id, ver)]
 | .wrap _ fs => fs.filterMap FV.hand
 | _ => []
theorem FV.hands_none {f:FV} (h:f.hand=none):f.hands=[]:=by cases f <;> first|rfl|(simp [FV.hand] at h)
theorem FV.no_hands {f:FV} (h:f.hand=none) {p:Nat×Nat} (hp:p∈f.hands):False:=by rw [FV.hands_none h] at hp;cases hp
structure zia (w:World) (base:Nat) (I:Nat→Prop) (βid:Option Nat) (ob:zn):Prop where
 wide:∀ e∈ob.es,e.length=ob.sz
 one:∀ f∈ob.es.flatten,f.one=true
 row:∃ v us,w.ownsRow base ob.E ob.sz v ob.es.length us∧v.ownBlock=βid∧RdL w I us ob.es.flatten
structure ziF (w:World) (base:Nat) (I:Nat→Prop) (βid:Option Nat) (ob:zn):Prop where
 ex:∃ b clock ents,βid=some b∧base≤b∧w.heap[b]? = some (.map ents clock)∧MapKept.Stamped ents clock∧ents.size=ob.es.length∧
  (∀ (j:Nat) e row,ents[j]? = some e→ob.es[j]? = some row→∃ kf vf,row=[kf,vf]∧kf.simple=true∧e.key=kf.val)∧
  ∀ (j:Nat) e row f,ents[j]? = some e→ob.es[j]? = some row→row[1]? = some f→Rd w I e.val f
structure ziG (w:World) (base:Nat) (I:Nat→Prop) (β:Nat→Option Nat) (s:FSt) (βid:Option Nat) (ob:zn):Prop where
 wide:∀ e∈ob.es,e.length=ob.sz
 vers:∀ f∈ob.es.flatten,∀ id ver,(id,ver)∈f.hands→ver≤(s.ob id).ver
 row:∃ v us,w.ownsRow base ob.E ob.sz v ob.es.length us∧v.ownBlock=βid∧us.length=ob.es.flatten.length∧∀ (j:Nat) u f,us[j]? = some u→ob.es.flatten[j]? = some f→VR w I β s u f
structure ziE (w:World) (base:Nat) (I:Nat→Prop) (β:Nat→Option Nat) (s:FSt) (βid:Option Nat) (ob:zn):Prop where
 vers:∀ f∈ob.es.flatten,∀ id ver,(id,ver)∈f.hands→ver≤(s.ob id).ver
 ex:∃ b clock ents,βid=some b∧base≤b∧w.heap[b]? = some (.map ents clock)∧MapKept.Stamped ents clock∧ents.size=ob.es.length∧
  (∀ (j:Nat) e row,ents[j]? = some e→ob.es[j]? = some row→∃ kf vf,row=[kf,vf]∧kf.simple=true∧e.key=kf.val)∧
  ∀ (j:Nat) e row f,ents[j]? = some e→ob.es[j]? = some row→row[1]? = some f→VR w I β s e.val f
def ZQ (w:World) (βid:Option Nat) (ob:zn):Prop:=
 match ob.life with
 | .roomy => ∃ b cur, βid=some b ∧ w.heap[b]? = some (.cells cur ob.E (0, 0)) ∧ (ob.es.length+1) * ob.sz ≤ cur.size
 | .full => ∀ b cur, βid=some b → w.heap[b]? = some (.cells cur ob.E (0, 0)) → cur.size=ob.es.length * ob.sz
 | _ => True
def ObR (w:World) (base:Nat) (I:Nat→Prop) (β:Nat→Option Nat) (s:FSt) (βid:Option Nat) (ob:zn):Prop:=
 if ob.life.row=true then zia w base I βid ob∧ZQ w βid ob else if ob.life.slic=true then ziG w base I β s βid ob else if ob.life=.hmap then ziE w base I β s βid ob else ziF w base I βid ob
section
variable {w:World} {base:Nat} {I:Nat→Prop} {β:Nat→Option Nat} {s:FSt} {βid:Option Nat} {ob:zn}
theorem ObR.rowR (h:ObR w base I β s βid ob) (hr:ob.life.row=true):zia w base I βid ob:=by unfold ObR at h;rw [if_pos hr] at h;exact h.1
theorem ObR.roomR (h:ObR w base I β s βid ob) (hr:ob.life.row=true):ZQ w βid ob:=by unfold ObR at h;rw [if_pos hr] at h;exact h.2
theorem ObR.rowH (h:ObR w base I β s βid ob) (hr:ob.life.row=false) (hs:ob.life.slic=true):ziG w base I β s βid ob:=by unfold ObR at h;rwa [if_neg (by rw [hr];decide),if_pos hs] at h
theorem ObR.mapR (h:ObR w base I β s βid ob) (hr:ob.life.slic=false) (hm:ob.life≠.hmap):ziF w base I βid ob:=by
 unfold ObR at h;rwa [if_neg (fun e=>by rw [zX.row_slic e] at hr;cases hr),if_neg (by rw [hr];decide),if_neg hm] at h
theorem ObR.mapH (h:ObR w base I β s βid ob) (hm:ob.life=.hmap):ziE w base I β s βid ob:=by
 unfold ObR at h;rwa [if_neg (by rw [hm];decide),if_neg (by rw [hm];decide),if_pos hm] at h
theorem ObR.mapB (h:ObR w base I β s βid ob) (hr:ob.life.slic=false):∃ b clock ents,βid=some b∧base≤b∧w.heap[b]? = some (.map ents clock):=by
 by_cases hm:ob.life=.hmap
 ·obtain ⟨b,clock,ents,h1,h2,h3,_⟩:=(h.mapH hm).ex;exact ⟨b,clock,ents,h1,h2,h3⟩
 ·obtain ⟨b,clock,ents,h1,h2,h3,_⟩:=(h.mapR hr hm).ex;exact ⟨b,clock,ents,h1,h2,h3⟩
theorem ObR.ofRow (h:zia w base I βid ob) (hm:ZQ w βid ob) (hr:ob.life.row=true):ObR w base I β s βid ob:=by unfold ObR;rw [if_pos hr];exact ⟨h,hm⟩
theorem ObR.ofH (h:ziG w base I β s βid ob) (hr:ob.life=.hrow):ObR w base I β s βid ob:=by unfold ObR;rw [if_neg (by rw [hr];decide),if_pos (by rw [hr];rfl)];exact h
theorem ObR.ofMap (h:ziF w base I βid ob) (hr:ob.life.slic=false) (hm:ob.life≠.hmap):ObR w base I β s βid ob:=by
 unfold ObR;rwa [if_neg (fun e=>by rw [zX.row_slic e] at hr;cases hr),if_neg (by rw [hr];decide),if_neg hm]
theorem ObR.ofMH (h:ziE w base I β s βid ob) (hm:ob.life=.hmap):ObR w base I β s βid ob:=by
 unfold ObR;rwa [if_neg (by rw [hm];decide),if_neg (by rw [hm];decide),if_pos hm]
theorem ZQ.own (hl:ob.life=.own):ZQ w βid ob:=by unfold ZQ;rw [hl];trivial
theorem ZQ.shut (hl:ob.life=.shut):ZQ w βid ob:=by unfold ZQ;rw [hl];trivial
end
structure JJ where
 ok:Nat→Prop
 K:Nat→Prop:=fun _=>False
 h0:Nat→Option Obj:=fun _=>none
 gh:Value→FV→Prop:=fun _ _=>False
 ds:List Deferred:=[]
instance:CoeFun JJ fun _=>Nat→Prop:=⟨JJ.ok⟩
def zB:Nat:=5000
def Imm (J:JJ) (w:World) (β:Nat→Option Nat) (s:FSt) (b:Nat):Prop:=b<w.heap.size∧J b∧∀ id,(s.ob id).life.mine=true→β id≠some b
structure FR (N:Nat) (w0:World) (J:JJ) (s:FSt) (a:Act) (w:World) (β:Nat→Option Nat):Prop where
 size:a.tmps.size=N
 defers:a.defers=J.ds
 bel:Below w0.heap.size w0 w
 fresh0:∀ b,w0.heap.size≤b→J b∨J.K b
 slot:∀ d,VR w (Imm J w β s) β s (a.tmps.getD d undef) (s.get d)
 vers:∀ d id ver,(id,ver)∈(s.get d).hands→ver≤(s.ob id).ver
 obj:∀ id,(s.ob id).life≠.dead→ObR w w0.heap.size (Imm J w β s) β s (β id) (s.ob id)
 inj:∀ id id' b,(s.ob id).life≠.dead→(s.ob id').life≠.dead→β id=some b→β id'=some b→id=id'
 kept:∀ b,J.K b→b<w.heap.size∧(∀ id,(s.ob id).life≠.dead→β id≠some b)∧w.heap[b]? = J.h0 b
 gh:∀ v f,J.gh v f→VR w (Imm J w β s) β s v f∧∀ id ver,(id,ver)∈f.hands→zB≤id∧ver≤(s.ob id).ver
theorem FR.fresh {N:Nat} {w0 w:World} {J:JJ} {s:FSt} {a:Act} {β:Nat→Option Nat} (h:FR N w0 J s a w β) (b:Nat) (hb:w0.heap.size≤b) (hx:w.heap.size≤b∨∃ id,(s.ob id).life≠.dead∧β id=some b):J b:=by
 rcases h.fresh0 b hb with h1|h1
 ·exact h1
 ·obtain ⟨k1,k2,_⟩:=h.kept b h1;rcases hx with hx|⟨id,hl,e⟩
  ·omega
  ·exact absurd e (k2 id hl)
theorem YC.mono {w w' : World} {βid:Option Nat} {ob:zn} {v:Value} {o n:Nat} (h:YC w βid ob v o n) (hb:∀ b,βid=some b→w'.heap[b]? = w.heap[b]?):YC w' βid ob v o n:=by
 obtain ⟨A,c,h1,h2,h3,h4,h5⟩:=h.ex;refine ⟨h.row,A,c,h1,h2,h3,h4,fun b hbb=>?_⟩;obtain ⟨o',k1,k2,k3⟩:=h5 b hbb;exact ⟨o',k1,k2,fun cur hc=>k3 cur (by rw [← hb b hbb];exact hc)⟩
theorem zbO {w w' : World} {base:Nat} {e:TypeId} {sz n:Nat} {v:Value} {xs:List Value} (h:w.ownsRow base e sz v n xs) (hb:∀ b,v.ownBlock=some b→w'.heap[b]? = w.heap[b]?):w'.ownsRow base e sz v n xs:=by
 refine ⟨h.1,?_⟩;rcases h.2 with hn|⟨g,cap,cur,rfl,hb',hgg,rest⟩
 ·exact .inl hn
 ·exact .inr ⟨g,cap,cur,rfl,hb',(hb g rfl).trans hgg,rest⟩
theorem zia.mono {w w' : World} {base:Nat} {I I' : Nat→Prop} {βid:Option Nat} {ob:zn} (h:zia w base I βid ob) (hI:∀ b,I b→I' b∧w'.heap[b]? = w.heap[b]?) (hb:∀ b,βid=some b→w'.heap[b]? = w.heap[b]?) :
  zia w' base I' βid ob:=by
 obtain ⟨v,us,h1,h2,h3⟩:=h.row;exact ⟨h.wide,h.one,v,us,zbO h1 (fun b hv=>hb b (h2▸hv)),h2,h3.mono hI⟩
theorem ziF.mono {w w' : World} {base:Nat} {I I' : Nat→Prop} {βid:Option Nat} {ob:zn} (h:ziF w base I βid ob) (hI:∀ b,I b→I' b∧w'.heap[b]? = w.heap[b]?) (hb:∀ b,βid=some b→w'.heap[b]? = w.heap[b]?) :
  ziF w' base I' βid ob:=by
 obtain ⟨b,clock,ents,h1,h2,h3,h4,h5,h6,h7⟩:=h.ex;exact ⟨b,clock,ents,h1,h2,(hb b h1).trans h3,h4,h5,h6,fun j e row f a b c=>(h7 j e row f a b c).mono hI⟩
theorem ZQ.mono {w w' : World} {βid:Option Nat} {ob:zn} (h:ZQ w βid ob) (hb:∀ b,βid=some b→w'.heap[b]? = w.heap[b]?):ZQ w' βid ob:=by
 unfold ZQ at h ⊢;cases hl:ob.life with
 | roomy =>
  rw [hl] at h;obtain ⟨b,cur,h1,h2,h3⟩:=h;exact ⟨b,cur,h1,(hb b h1).trans h2,h3⟩
 | full =>
  rw [hl] at h;exact fun b cur h1 h2=>h b cur h1 ((hb b h1).symm.trans h2)
 | _ => trivial
theorem ziG.mono {w w' : World} {base:Nat} {I I' : Nat→Prop} {β β' : Nat→Option Nat} {s s' : FSt} {βid:Option Nat} {ob:zn} (h:ziG w base I β s βid ob) (hb:∀ b,βid=some b→w'.heap[b]? = w.heap[b]?)
  (T:∀ v f,VR w I β s v f→(∀ id ver,(id,ver)∈f.hands→ver≤(s.ob id).ver)→VR w' I' β' s' v f) (hv:∀ id,(s.ob id).ver≤(s'.ob id).ver):ziG w' base I' β' s' βid ob:=by
 obtain ⟨v,us,h1,h2,h3,h4⟩:=h.row;exact ⟨h.wide,fun f hf id ver e=>Nat.le_trans (h.vers f hf id ver e) (hv id),v,us,zbO h1 (fun b hv=>hb b (h2▸hv)),h2,h3,fun j u f hu hf=>T u f (h4 j u f hu hf) (h.vers f (List.mem_of_getElem? hf))⟩
theorem ziE.mono {w w' : World} {base:Nat} {I I' : Nat→Prop} {β β' : Nat→Option Nat} {s s' : FSt} {βid:Option Nat} {ob:zn} (h:ziE w base I β s βid ob) (hb:∀ b,βid=some b→w'.heap[b]? = w.heap[b]?)
  (T:∀ v f,VR w I β s v f→(∀ id ver,(id,ver)∈f.hands→ver≤(s.ob id).ver)→VR w' I' β' s' v f) (hv:∀ id,(s.ob id).ver≤(s'.ob id).ver):ziE w' base I' β' s' βid ob:=by
 obtain ⟨b,clock,ents,h1,h2,h3,h4,h5,h6,h7⟩:=h.ex;exact ⟨fun f hf id ver e=>Nat.le_trans (h.vers f hf id ver e) (hv id),b,clock,ents,h1,h2,by rw [hb b h1];exact h3,h4,h5,h6,fun j e row f he hr hf=>T _ f (h7 j e row f he hr hf) (h.vers f (List.mem_flatten.2 ⟨row,List.mem_of_getElem? hr,List.mem_of_getElem? hf⟩))⟩
theorem ObR.mono {w w' : World} {base:Nat} {I I' : Nat→Prop} {β β' : Nat→Option Nat} {s s' : FSt} {βid:Option Nat} {ob:zn} (h:ObR w base I β s βid ob) (hI:∀ b,I b→I' b∧w'.heap[b]? = w.heap[b]?) (hb:∀ b,βid=some b→w'.heap[b]? = w.heap[b]?)
  (T:∀ v f,VR w I β s v f→(∀ id ver,(id,ver)∈f.hands→ver≤(s.ob id).ver)→VR w' I' β' s' v f) (hv:∀ id,(s.ob id).ver≤(s'.ob id).ver):ObR w' base I' β' s' βid ob:=by
 cases hr:ob.life.row with
 | true => exact .ofRow ((h.rowR hr).mono hI hb) ((h.roomR hr).mono hb) hr
 | false=>
  cases hs:ob.life.slic with
  | true =>
   refine .ofH ((h.rowH hr hs).mono hb T hv) ?_;cases hl:ob.life <;> rw [hl] at hr hs <;> first|rfl|(simp [zX.row,zX.slic] at hr hs;done)
  | false =>
   by_cases hm:ob.life=.hmap
   ·exact .ofMH ((h.mapH hm).mono hb T hv) hm
   ·exact .ofMap ((h.mapR hs hm).mono hI hb) hs hm
theorem ObR.lt {w:World} {base:Nat} {I:Nat→Prop} {β:Nat→Option Nat} {s:FSt} {βid:Option Nat} {ob:zn} (h:ObR w base I β s βid ob) {b:Nat} (hb:βid=some b):base≤b∧b<w.heap.size:=by
 cases hr:ob.life.row with
 | true =>
  obtain ⟨v,us,h1,h2,h3⟩:=(h.rowR hr).row;exact h1.lt b (h2.trans hb)
 | false=>
  cases hs:ob.life.slic with
  | true =>
   obtain ⟨v,us,h1,h2,h3⟩:=(h.rowH hr hs).row;exact h1.lt b (h2.trans hb)
  | false =>
   obtain ⟨b',clock,ents,h1,h2,h3⟩:=h.mapB hs;rw [hb] at h1;injection h1 with h1
   subst h1;exact ⟨h2,(Array.getElem?_eq_some_iff.1 h3).1⟩
theorem VR1.mono {w w' : World} {I I' : Nat→Prop} {β β' : Nat→Option Nat} {s s' : FSt} {v:Value} {f:FV} (h:VR1 w I β s v f) (hI:∀ b,I b→I' b∧w'.heap[b]? = w.heap[b]?)
  (hh:∀ id ver,f.hand=some (id,ver)→(s'.ob id).life≠.dead→(s'.ob id).ver=ver→(s.ob id).life≠.dead∧(s.ob id).ver=ver∧β' id=β id∧(s'.ob id).sz=(s.ob id).sz∧(s'.ob id).life.slic=(s.ob id).life.slic∧
   ∀ v o n,YC w (β id) (s.ob id) v o n→YC w' (β' id) (s'.ob id) v o n):VR1 w' I' β' s' v f:=by
 cases f with
 | own id ver o n =>
  intro h1 h2;obtain ⟨k1,k2,_,_,_,k3⟩:=hh id ver rfl h1 h2;exact k3 v o n (h k1 k2)
 | ptr id ver i off =>
  intro h1 h2;obtain ⟨k1,k2,k3,k4,k5,_⟩:=hh id ver rfl h1 h2;obtain ⟨hrow,b,hb,hv⟩:=h k1 k2;exact ⟨by rw [k5];exact hrow,b,by rw [k3];exact hb,by rw [k4];exact hv⟩
 | omap id ver =>
  intro h1 h2;obtain ⟨k1,k2,k3,k4,k5,_⟩:=hh id ver rfl h1 h2;obtain ⟨hrow,b,hb,hv⟩:=h k1 k2;exact ⟨by rw [k5];exact hrow,b,by rw [k3];exact hb,hv⟩
 | _ => exact Rd.mono hI h
theorem VR.of1 {w:World} {I:Nat→Prop} {β:Nat→Option Nat} {s:FSt} {v:Value} {f:FV} (h:VR1 w I β s v f):VR w I β s v f:=by
 cases f with
 | wrap k fs => have h' : Rd w I v (.wrap k fs) := h; cases h'
 | _ => exact h
theorem VR.to1 {w:World} {I:Nat→Prop} {β:Nat→Option Nat} {s:FSt} {v:Value} {f:FV} (h:VR w I β s v f) (hw:∀ k fs,f≠.wrap k fs):VR1 w I β s v f:=by
 cases f with
 | wrap k fs => exact absurd rfl (hw k fs)
 | _ => exact h
theorem VR.mono {w w' : World} {I I' : Nat→Prop} {β β' : Nat→Option Nat} {s s' : FSt} {v:Value} {f:FV} (h:VR w I β s v f) (hI:∀ b,I b→I' b∧w'.heap[b]? = w.heap[b]?)
  (hh:∀ id ver,(id,ver)∈f.hands→(s'.ob id).life≠.dead→(s'.ob id).ver=ver→(s.ob id).life≠.dead∧(s.ob id).ver=ver∧β' id=β id∧(s'.ob id).sz=(s.ob id).sz∧(s'.ob id).life.slic=(s.ob id).life.slic∧
   ∀ v o n,YC w (β id) (s.ob id) v o n→YC w' (β' id) (s'.ob id) v o n):VR w' I' β' s' v f:=by
 have key:∀ g:FV,(∀ k fs,g≠.wrap k fs)→∀ id ver,g.hand=some (id,ver)→(id,ver)∈g.hands:=fun g hg id ver e=>by
  cases g with
  | wrap k fs => exact absurd rfl (hg k fs)
  | own|ptr|omap => simp only [FV.hand, Option.some.injEq] at e; rw [← e]; exact List.mem_singleton.2 rfl
  | _ => cases e
 by_cases hw:∃ k fs,f=.wrap k fs
 ·obtain ⟨k,fs,rfl⟩:=hw;obtain ⟨us,e,hl,hr⟩:=h;refine ⟨us,e,hl,fun j u g hu hg=>(hr j u g hu hg).mono hI fun id ver hf=>hh id ver ?_⟩;exact List.mem_filterMap.2 ⟨g,List.mem_of_getElem? hg,hf⟩
 ·have hw' : ∀ k fs,f≠.wrap k fs:=fun k fs e=>hw ⟨k,fs,e⟩;exact VR.of1 ((h.to1 hw').mono hI fun id ver hf=>hh id ver (key f hw' id ver hf))
theorem VR.of_rd {w:World} {I:Nat→Prop} {β:Nat→Option Nat} {s:FSt} {v:Value} {f:FV} (h:Rd w I v f) (hf:f.hand=none):VR w I β s v f:=by
 cases f <;> first|exact h|(simp [FV.hand] at hf)
theorem VR.rd {w:World} {I:Nat→Prop} {β:Nat→Option Nat} {s:FSt} {v:Value} {f:FV} (h:VR w I β s v f) (hf:f.hand=none):Rd w I v f:=by
 cases f <;> first|exact h|(simp [FV.hand] at hf)
theorem FR.step {N:Nat} {w0 w w' : World} {J:JJ} {s s' : FSt} {a a' : Act} {β β' : Nat→Option Nat} (h:FR N w0 J s a w β) (C:Nat→Prop)
  (size:a'.tmps.size=N) (defers:a'.defers=J.ds) (bel:Below w0.heap.size w0 w')
  (hI:∀ b,Imm J w β s b→Imm J w' β' s' b∧w'.heap[b]? = w.heap[b]?)
  (hslot:∀ k,(a'.tmps.getD k undef=a.tmps.getD k undef∧s'.get k=s.get k)∨
   (VR w' (Imm J w' β' s') β' s' (a'.tmps.getD k undef) (s'.get k)∧∀ id ver,(id,ver)∈(s'.get k).hands→ver≤(s'.ob id).ver))
  (hob:∀ id,¬ C id→s'.ob id=s.ob id∧β' id=β id∧((s.ob id).life≠.dead→∀ b,β id=some b→w'.heap[b]? = w.heap[b]?))
  (hver:∀ id,C id→(s.ob id).ver≤(s'.ob id).ver)
  (hsame:∀ id,C id→(s'.ob id).life≠.dead→(s'.ob id).ver=(s.ob id).ver→(s.ob id).life≠.dead∧β' id=β id∧(s'.ob id).sz=(s.ob id).sz∧(s'.ob id).life.slic=(s.ob id).life.slic∧∀ v o n,YC w (β id) (s.ob id) v o n→YC w' (β' id) (s'.ob id) v o n)
  (hnew:∀ id,C id→(s'.ob id).life≠.dead→(∀ v f,VR w (Imm J w β s) β s v f→(∀ id ver,(id,ver)∈f.hands→ver≤(s.ob id).ver)→VR w' (Imm J w' β' s') β' s' v f)→ObR w' w0.heap.size (Imm J w' β' s') β' s' (β' id) (s'.ob id))
  (inj:∀ id id' b,(s'.ob id).life≠.dead→(s'.ob id').life≠.dead→β' id=some b→β' id'=some b→id=id')
  (hH:∀ b,b<w.heap.size→(∀ id,(s.ob id).life≠.dead→β id≠some b)→w'.heap[b]? = w.heap[b]?∧∀ id,(s'.ob id).life≠.dead→β' id≠some b):FR N w0 J s' a' w' β':=by
 have T:∀ v f,VR w (Imm J w β s) β s v f→(∀ id ver,(id,ver)∈f.hands→ver≤(s.ob id).ver)→VR w' (Imm J w' β' s') β' s' v f:=fun v f hv hle=>by
  refine hv.mono hI fun id ver hf h1 h2=>?_;have hle:=hle id ver hf;by_cases hC:C id
  ·have:=hver id hC;have hv:(s'.ob id).ver=(s.ob id).ver:=by omega
   obtain ⟨k1,k2,k3,k4,k5⟩:=hsame id hC h1 hv;exact ⟨k1,by omega,k2,k3,k4,k5⟩
  ·obtain ⟨e,e',hb⟩:=hob id hC;rw [e] at h1 h2;refine ⟨h1,h2,e',by rw [e],by rw [e],fun v o n hv=>?_⟩;rw [e,e'];exact hv.mono (hb h1)
 have hv:∀ id,(s.ob id).ver≤(s'.ob id).ver:=fun id=>by
  by_cases hC:C id
  ·exact hver id hC
  ·rw [(hob id hC).1];exact Nat.le_refl _
 refine { size:=size,defers:=defers,bel:=bel,fresh0:=h.fresh0,slot:=fun k=>?_,vers:=fun k id ver hf=>?_,obj:=fun id hl=>?_,inj:=inj,
          kept:=fun b hb=>by
           obtain ⟨k1,k2,k3⟩:=h.kept b hb;obtain ⟨q1,q2⟩:=hH b k1 k2;have:w'.heap[b]? = some w.heap[b]:=q1.trans (by simp [k1]);exact ⟨(Array.getElem?_eq_some_iff.1 this).1,q2,q1.trans k3⟩,
          gh:=fun v f hg=>⟨T v f (h.gh v f hg).1 fun id ver hf=>((h.gh v f hg).2 id ver hf).2,fun id ver hf=>⟨((h.gh v f hg).2 id ver hf).1,Nat.le_trans ((h.gh v f hg).2 id ver hf).2 (hv id)⟩⟩ }
 ·rcases hslot k with ⟨e1,e2⟩|⟨hv,_⟩
  ·rw [e1,e2];exact T _ _ (h.slot k) (h.vers k)
  ·exact hv
 ·rcases hslot k with ⟨e1,e2⟩|⟨_,hv'⟩
  ·rw [e2] at hf;exact Nat.le_trans (h.vers k id ver hf) (hv id)
  ·exact hv' id ver hf
 ·by_cases hC:C id
  ·exact hnew id hC hl T
  ·obtain ⟨e,e',hb⟩:=hob id hC;rw [e] at hl ⊢;rw [e'];exact (h.obj id hl).mono hI (hb hl) T hv
theorem Xh (a:Act) (d:Nat) (v:Value) (k:Nat) (hd:d<a.tmps.size):(a.put (some d) v).tmps.getD k undef=if d=k then v else a.tmps.getD k undef:=by
 simp only [Act.put,Array.getD_eq_getD_getElem?,Array.getElem?_setIfInBounds];split
 ·rename_i h;subst h;simp
 ·rfl
theorem FR.put {N:Nat} {w0 w:World} {J:JJ} {s:FSt} {a:Act} {β:Nat→Option Nat} (h:FR N w0 J s a w β) {d:Nat} {v:Value} {f:FV} (hd:d<N) (hv:VR w (Imm J w β s) β s v f)
  (hver:∀ id ver,(id,ver)∈f.hands→ver≤(s.ob id).ver):FR N w0 J (s.put d f) (a.put (some d) v) w β:=by
 refine h.step (C:=fun _=>False) (by simp [Act.put,h.size]) h.defers h.bel (fun b hb=>⟨hb,rfl⟩) (fun k=>?_) (fun id _=>⟨rfl,rfl,fun _ _ _=>rfl⟩) (fun _ h=>h.elim) (fun _ h=>h.elim) (fun _ h=>h.elim) h.inj (fun b _ hn=>⟨rfl,hn⟩);rw [Xh a d v k (h.size▸hd),FSt.get_put];split
 ·exact .inr ⟨hv.mono (fun b hb=>⟨hb,rfl⟩) (fun id ver _ h1 h2=>⟨h1,h2,rfl,rfl,rfl,fun _ _ _ h=>h⟩),fun id ver hf=>hver id ver hf⟩
 ·exact .inl ⟨rfl,rfl⟩
theorem Imm.grow {J:JJ} {w w' : World} {β:Nat→Option Nat} {s:FSt} {b:Nat} (h:Imm J w β s b) (hb:Below w.heap.size w w'):Imm J w' β s b∧w'.heap[b]? = w.heap[b]?:=
 ⟨⟨Nat.lt_of_lt_of_le h.1 hb.size,h.2⟩,hb.block b h.1⟩
theorem FR.grow {N:Nat} {w0 w w' : World} {J:JJ} {s:FSt} {a:Act} {β:Nat→Option Nat} (h:FR N w0 J s a w β) (hb:Below w.heap.size w w'):FR N w0 J s a w' β:=by
 refine h.step (C:=fun _=>False) h.size h.defers (h.bel.trans (hb.mono h.bel.size)) (fun b hbb=>hbb.grow hb) (fun k=>.inl ⟨rfl,rfl⟩) (fun id _=>⟨rfl,rfl,fun hl b e=>?_⟩) (fun _ h=>h.elim) (fun _ h=>h.elim) (fun _ h=>h.elim) h.inj (fun b hlt hn=>⟨hb.block b hlt,hn⟩);exact hb.block b ((h.obj id hl).lt e).2
def Yg (β:Nat→Option Nat) (j:Nat) (x:Option Nat):Nat→Option Nat:=fun k=>if k=j then x else β k
theorem FR.make {N:Nat} {w0 w w' : World} {J:JJ} {s:FSt} {a:Act} {β:Nat→Option Nat} (h:FR N w0 J s a w β) (i:Option Nat) (j:Nat) {E sz:Nat} {es:List (List FV)} {v:Value} {xs:List Value}
  (hi:∀ k,i=some k→(s.ob k).life.mine=true) (hg:w.grownBy w' (i.bind β)) (hw:∀ e∈es,e.length=sz) (ho:∀ f∈es.flatten,f.one=true) (hv:w'.ownsRow w0.heap.size E sz v es.length xs) (hr:RdL w (Imm J w β s) xs es.flatten)
  (hb:(v.ownBlock=i.bind β)∨v.ownBlock=none∨∃ b,v.ownBlock=some b∧w.heap.size≤b) {s' : FSt}
  (hs:∀ k,s'.ob k=if j=k then ⟨(s.ob j).ver+1,.own,E,sz,es⟩ else if i=some k then { s.ob k with life:=.dead } else s.ob k) (hst:∀ k,s'.get k=s.get k) :
  FR N w0 J s' a w' (Yg β j v.ownBlock):=by
 have hlow:∀ k,i.bind β=some k→w0.heap.size≤k:=fun k hk=>by
  cases i with
  | none => simp at hk
  | some i => exact ((h.obj i (zX.mine_ne (hi i rfl))).lt (by simpa using hk)).1
 have hne:∀ b,Imm J w β s b→some b≠i.bind β:=fun b hbb e=>by
  cases i with
  | none => simp at e
  | some i => exact hbb.2.2 i (hi i rfl) (by simpa using e.symm)
 have hI:∀ b,Imm J w β s b→Imm J w' (Yg β j v.ownBlock) s' b∧w'.heap[b]? = w.heap[b]?:=fun b hbb=>by
  refine ⟨⟨Nat.lt_of_lt_of_le hbb.1 hg.size,hbb.2.1,fun id hl=>?_⟩,hg.block b hbb.1 (hne b hbb)⟩;rw [hs] at hl;unfold Yg;by_cases hj:j=id
  ·rw [if_pos hj.symm];rcases hb with e|e|⟨b',e,hge⟩
   ·rw [e];exact fun e2=>hne b hbb e2.symm
   ·rw [e];simp
   ·rw [e];intro e2;injection e2 with e2;have:=hbb.1;omega
  ·rw [if_neg hj] at hl;rw [if_neg (fun e=>hj e.symm)];by_cases hii:i=some id
   ·rw [if_pos hii] at hl;cases hl
   ·rw [if_neg hii] at hl;exact hbb.2.2 id hl
 have hblk:∀ id b,id≠j→i≠some id→(s.ob id).life≠.dead→β id=some b→b<w.heap.size∧w'.heap[b]? = w.heap[b]?∧v.ownBlock≠some b:=fun id b hj hii hl hbb=>by
  have hlt:=((h.obj id hl).lt hbb).2;have hnn:some b≠i.bind β:=fun e=>by
   cases i with
   | none => simp at e
   | some i =>
    have:=h.inj id i b hl (zX.mine_ne (hi i rfl)) hbb (by simpa using e.symm);exact hii (by rw [this])
  refine ⟨hlt,hg.block b hlt hnn,?_⟩;rcases hb with e|e|⟨b',e,hge⟩
  ·rw [e];exact fun e2=>hnn e2.symm
  ·rw [e];simp
  ·rw [e];intro e2;injection e2 with e2;omega
 refine h.step (C:=fun id=>id=j∨i=some id) h.size h.defers (h.bel.grown hg h.bel.size hlow) hI (fun k=>.inl ⟨rfl,hst k⟩) (fun id hC=>?_) (fun id hC=>?_) (fun id hC hl hvv=>?_) (fun id hC hl _=>?_) ?_ ?_
 ·have hj:¬ id=j:=fun e=>hC (.inl e);have hii:¬ i=some id:=fun e=>hC (.inr e);refine ⟨by rw [hs,if_neg (fun e=>hj e.symm),if_neg hii],by unfold Yg;rw [if_neg hj],fun hl b hbb=>(hblk id b hj hii hl hbb).2.1⟩
 ·rw [hs];split
  ·rename_i e;subst e;simp
  ·split <;> simp
 ·rw [hs] at hl hvv;split at hl
  ·rename_i e;rw [if_pos e] at hvv;subst e;simp at hvv
  ·rename_i e;rcases hC with hC|hC
   ·exact absurd hC.symm e
   ·rw [if_pos hC] at hl;simp at hl
 ·rw [hs] at hl ⊢;split at hl
  ·rename_i e;subst e;rw [if_pos rfl];unfold Yg;rw [if_pos rfl];exact .ofRow ⟨hw,ho,v,xs,hv,rfl,hr.mono hI⟩ (.own rfl) rfl
  ·rename_i e;rcases hC with hC|hC
   ·exact absurd hC.symm e
   ·rw [if_pos hC] at hl;simp at hl
 ·intro id id' b hl hl' e e';unfold Yg at e e';rw [hs] at hl hl';by_cases hj:id=j
  ·by_cases hj' : id'=j
   ·rw [hj,hj']
   ·rw [if_pos hj] at e;rw [if_neg hj'] at e';rw [if_neg (fun e=>hj' e.symm)] at hl';by_cases hii:i=some id'
    ·rw [if_pos hii] at hl';simp at hl'
    ·rw [if_neg hii] at hl';exact absurd e (hblk id' b hj' hii hl' e').2.2
  ·rw [if_neg hj] at e;rw [if_neg (fun e=>hj e.symm)] at hl;have hii:¬ i=some id:=fun hii=>by rw [if_pos hii] at hl;simp at hl
   rw [if_neg hii] at hl;by_cases hj' : id'=j
   ·rw [if_pos hj'] at e';exact absurd e' (hblk id b hj hii hl e).2.2
   ·rw [if_neg hj'] at e';rw [if_neg (fun e=>hj' e.symm)] at hl';have hii' : ¬ i=some id':=fun hii=>by rw [if_pos hii] at hl';simp at hl'
    rw [if_neg hii'] at hl';exact h.inj id id' b hl hl' e e'
 ·intro b hlt hn;have hnn:some b≠i.bind β:=fun e=>by
   cases i with
   | none => simp at e
   | some i => exact hn i (zX.mine_ne (hi i rfl)) (by simpa using e.symm)
  refine ⟨hg.block b hlt hnn,fun id hl e=>?_⟩;unfold Yg at e;rw [hs] at hl;by_cases hj:id=j
  ·rw [if_pos hj] at e;rcases hb with e2|e2|⟨b',e2,hge⟩
   ·rw [e2] at e;exact hnn e.symm
   ·rw [e2] at e;simp at e
   ·rw [e2] at e;injection e with e;omega
  ·rw [if_neg hj] at e;rw [if_neg (fun e=>hj e.symm)] at hl;have hii:¬ i=some id:=fun hii=>by rw [if_pos hii] at hl;simp at hl
   rw [if_neg hii] at hl;exact hn id hl e
theorem FR.write {N:Nat} {w0 w w' : World} {J:JJ} {s:FSt} {a:Act} {β:Nat→Option Nat} (h:FR N w0 J s a w β) (i:Nat) {es:List (List FV)} {v:Value} {xs:List Value}
  (hi:(s.ob i).life=.own) (hg:w.grownBy w' (β i)) (hw:∀ e∈es,e.length=(s.ob i).sz) (ho:∀ f∈es.flatten,f.one=true) (hv:w'.ownsRow w0.heap.size (s.ob i).E (s.ob i).sz v es.length xs) (hvb:v.ownBlock=β i)
  (hr:RdL w (Imm J w β s) xs es.flatten) (hl:es.length=(s.ob i).es.length) (hsz:∀ b cur cur',β i=some b→w.heap[b]? = some (.cells cur (s.ob i).E (0,0))→w'.heap[b]? = some (.cells cur' (s.ob i).E (0,0))→cur'.size=cur.size)
  {s' : FSt} (hs:∀ k,s'.ob k=if i=k then { s.ob i with es:=es } else s.ob k) (hst:∀ k,s'.get k=s.get k):FR N w0 J s' a w' β:=by
 have hla:(s.ob i).life≠.dead:=by rw [hi];decide
 have hI:∀ b,Imm J w β s b→Imm J w' β s' b∧w'.heap[b]? = w.heap[b]?:=fun b hbb=>by
  refine ⟨⟨Nat.lt_of_lt_of_le hbb.1 hg.size,hbb.2.1,fun id hl=>?_⟩,hg.block b hbb.1 (fun e=>hbb.2.2 i (by rw [hi];rfl) e.symm)⟩;rw [hs] at hl;split at hl
  ·rename_i e;subst e;exact hbb.2.2 i (by rw [hi];rfl)
  ·exact hbb.2.2 id hl
 refine h.step (C:=fun id=>id=i) h.size h.defers (h.bel.grown hg h.bel.size fun k hk=>((h.obj i hla).lt hk).1) hI (fun k=>.inl ⟨rfl,hst k⟩) (fun id hC=>?_) (fun id hC=>?_) (fun id hC hl2 hvv=>?_) (fun id hC hl2 T=>?_) ?_ ?_
 ·refine ⟨by rw [hs,if_neg (fun e=>hC e.symm)],rfl,fun hl2 b hbb=>hg.block b ((h.obj id hl2).lt hbb).2 (fun e=>hC (h.inj id i b hl2 hla hbb e.symm))⟩
 ·subst hC;rw [hs,if_pos rfl];exact Nat.le_refl _
 ·subst hC;refine ⟨hla,rfl,by rw [hs,if_pos rfl],by rw [hs,if_pos rfl],fun v2 o n hv2=>?_⟩;rw [hs,if_pos rfl];obtain ⟨A,c,h1,h2,h3,h4,h5⟩:=hv2.ex;refine ⟨hv2.row,A,c,h1,h2,by dsimp only;omega,h4,fun b hbb=>?_⟩;obtain ⟨o',k1,k2,k3⟩:=h5 b hbb;refine ⟨o',k1,k2,fun cur' hc'=>?_⟩;obtain ⟨v0,us0,r1,r2,r3⟩:=((h.obj id hla).rowR (by rw [hi];rfl)).row;rcases r1.2 with ⟨rfl,_⟩|⟨g,cap,cur,rfl,_,hgg,_⟩
  ·rw [← r2] at hbb;simp [Value.ownBlock] at hbb
  ·have hgb:g=b:=by rw [← r2] at hbb;simpa [Value.ownBlock] using hbb
   subst hgb;rw [hsz g cur cur' hbb hgg hc'];exact k3 cur hgg
 ·subst hC;rw [hs,if_pos rfl];exact .ofRow ⟨hw,ho,v,xs,hv,hvb,hr.mono hI⟩ (.own hi) (by show (s.ob id).life.row=true;rw [hi];rfl)
 ·intro id id' b hl2 hl2' e e';refine h.inj id id' b ?_ ?_ e e'
  ·rw [hs] at hl2;split at hl2
   ·rename_i e;subst e;exact hla
   ·exact hl2
  ·rw [hs] at hl2';split at hl2'
   ·rename_i e;subst e;exact hla
   ·exact hl2'
 ·intro b hlt hn;refine ⟨hg.block b hlt (fun e=>hn i hla e.symm),fun id hl2=>hn id ?_⟩;rw [hs] at hl2;split at hl2
  ·rename_i e;subst e;exact hla
  ·exact hl2
theorem FR.lives {N:Nat} {w0 w:World} {J:JJ} {s:FSt} {a:Act} {β:Nat→Option Nat} (h:FR N w0 J s a w β) (i:Nat) (l:zX) (hll:l.mine=true→(s.ob i).life.mine=true) (hd:(s.ob i).life=.dead→l=.dead) (hslic:l≠.dead→l.slic=(s.ob i).life.slic)
  {s' : FSt} (hs:∀ k,s'.ob k=if i=k then { s.ob i with life:=l } else s.ob k) (hst:∀ k,s'.get k=s.get k)
  (htr:l≠.dead→ObR w w0.heap.size (Imm J w β s') β s' (β i) (s.ob i)→ObR w w0.heap.size (Imm J w β s') β s' (β i) { s.ob i with life:=l }):FR N w0 J s' a w β:=by
 have hsub:∀ id,(s'.ob id).life≠.dead→(s.ob id).life≠.dead:=fun id hl=>by
  rw [hs] at hl;split at hl
  ·rename_i e;subst e;exact fun e=>hl (hd e)
  ·exact hl
 have hI:∀ b,Imm J w β s b→Imm J w β s' b∧w.heap[b]? = w.heap[b]?:=fun b hbb=>by
  refine ⟨⟨hbb.1,hbb.2.1,fun id hl=>?_⟩,rfl⟩;rw [hs] at hl;split at hl
  ·rename_i e;subst e;exact hbb.2.2 i (hll hl)
  ·exact hbb.2.2 id hl
 have hv:∀ id,(s.ob id).ver≤(s'.ob id).ver:=fun id=>by
  rw [hs];split
  ·rename_i e;subst e;exact Nat.le_refl _
  ·exact Nat.le_refl _
 refine h.step (C:=fun id=>id=i) h.size h.defers h.bel hI (fun k=>.inl ⟨rfl,hst k⟩) (fun id hC=>?_) (fun id hC=>hv id) (fun id hC hl2 hvv=>?_) (fun id hC hl2 T=>?_) ?_ (fun b _ hn=>⟨rfl,fun id hl2=>hn id (hsub id hl2)⟩)
 ·exact ⟨by rw [hs,if_neg (fun e=>hC e.symm)],rfl,fun _ _ _=>rfl⟩
 ·have hl3:=hsub id hl2;subst hC;rw [hs,if_pos rfl] at hl2;have hrl:=hslic hl2;refine ⟨hl3,rfl,by rw [hs,if_pos rfl],by rw [hs,if_pos rfl];exact hrl,fun v2 o n hv2=>?_⟩;rw [hs,if_pos rfl];exact ⟨hrl.trans hv2.row,hv2.ex⟩
 ·have hl3:=hsub id hl2;subst hC;have ho:=(h.obj id hl3).mono hI (fun _ _=>rfl) T hv;rw [hs,if_pos rfl] at hl2 ⊢;exact htr hl2 ho
 ·intro id id' b hl2 hl2' e e';exact h.inj id id' b (hsub id hl2) (hsub id' hl2') e e'
inductive TK where
 | other|any|int (k:IntKind)|bool|str|slice (e:Nat)|strct (fs:List (Nat × Nat))|arr (n e:Nat)|map (k e:Nat)
 deriving Inhabited
def TK.agg?:TK→Option Bool
 | .strct _|.arr _ _ => some true
 | .int _|.bool|.str|.slice _|.map _ _|.any => some false
 | .other => none
structure TS where
 k:TK:=.other
 size:Nat:=0
 bytes:Nat:=0
 zero:List FV:=[]
 deriving Inhabited
def xz:Value→FV→Bool
 | .int k n, .int k' n' => decide (k=k') && decide (n=n')
 | .bool a, .bool b => a == b
 | .string s, .str s' => s.size == 0 && s'.size == 0
 | .slice none 0 0, .nil => true
 | .map none, .nilm => true
 | _, .undef => true
 | _, _ => false
def Zf:List Value→List FV→Bool
 | [], [] => true
 | v :: vs, f :: fs => xz v f && Zf vs fs
 | _, _ => false
def xq (P:Program) (d:TypeDesc) (k:TK):Bool:=
 match k,d with
 | .other, _ => true
 | .any, .struct _ => false
 | .any, .array _ _ => false
 | .any, _ => true
 | .int k, .int k' => decide (k=k')
 | .bool, .bool => true
 | .str, .string => true
 | .slice e, .slice e' => decide (e=e')
 | .strct fs, .struct gs => decide (fs=gs.toList.map fun f => (f.offset, f.type)) && gs.toList.all fun f => decide (f.name ≠ "_")
 | .arr n e, .array n' e' => decide (n=n') && decide (e=e')
 | .map k e, .map k' e' => decide (k=k') && decide (e=e')
 | _, _ => false
def ziD (k:TK) (z:Value):Bool:=
 match k.agg? with
 | some true => match z with|.agg _ => true|_ => false
 | some false => match z with|.agg _ => false|_ => true
 | none => true
def YU (P:Program) (T:Nat) (ts:TS):Bool:=
 match P.underlying T,P.info? T with
 | some d,some i=>
  xq P d ts.k && decide (i.size=ts.size) && decide (i.bytes=ts.bytes) && decide (ts.zero.length=ts.size) &&
   (match i.zero with|some z=>Zf z.cells.toList ts.zero && ziD ts.k z|none=>false)
 | _, _ => false
structure zjt (P:Program) (T:Nat) (ts:TS) (d:TypeDesc) (i:TypeInfo) (z:Value):Prop where
 u:P.underlying T=some d
 k:xq P d ts.k=true
 info:P.info? T=some i
 size:i.size=ts.size
 bytes:i.bytes=ts.bytes
 zo:i.zero=some z
 zl:ts.zero.length=ts.size
 zr:Zf z.cells.toList ts.zero=true
 zk:ziD ts.k z=true
theorem zfk {P:Program} {T:Nat} {ts:TS} (h:YU P T ts=true):∃ d i z,zjt P T ts d i z:=by
 unfold YU at h;cases hu:P.underlying T with
 | none => rw [hu] at h; cases h
 | some d=>
  cases hi:P.info? T with
  | none => rw [hu, hi] at h; cases h
  | some i=>
   rw [hu,hi] at h;simp only [Bool.and_eq_true,decide_eq_true_eq] at h;obtain ⟨⟨⟨⟨h1,h2⟩,h3⟩,h4⟩,h5⟩:=h;cases hz:i.zero with
   | none => rw [hz] at h5; cases h5
   | some z =>
    rw [hz] at h5;simp only [Bool.and_eq_true] at h5;exact ⟨d,i,z,hu,h1,hi,h2,h3,hz,h4,h5.1,h5.2⟩
structure Ctx where
 P:Program
 N:Nat
 ty:Nat→TS
 ok:∀ T,(match (ty T).k with|.other=>true|_=>YU P T (ty T))=true
 mixed:P.follows .mixedOrders=true
theorem Ctx.get (c:Ctx) {T:Nat} {k:TK} (h:(c.ty T).k=k) (hk:k≠.other):∃ d i z,zjt c.P T (c.ty T) d i z:=by
 refine zfk ?_;have:=c.ok T;cases k <;> first|exact absurd rfl hk|(rw [h] at this;exact this)
theorem Rd.zero {w:World} {I:Nat→Prop} {v:Value} {f:FV} (h:xz v f=true):Rd w I v f:=by
 cases f with
 | undef => exact .undef v
 | int k n =>
  cases v <;> simp [xz] at h
  obtain ⟨rfl,rfl⟩:=h;exact .int _ _
 | bool b =>
  cases v <;> simp [xz] at h
  subst h;exact .bool _
 | str s =>
  cases v <;> simp [xz] at h
  rename_i t;have e:t=s:=by rw [h.1,h.2]
  subst e;exact .str _
 | nil=>
  cases v with
  | slice a n c =>
   cases a with
   | none => cases n <;> cases c <;> first|exact .nil|(simp [xz] at h)
   | some a => simp [xz] at h
  | _ => simp [xz] at h
 | nilm=>
  cases v with
  | map a =>
   cases a with
   | none => exact .nilm
   | some a => simp [xz] at h
  | _ => simp [xz] at h
 | _ => cases v <;> first|(simp [xz] at h; done)|(rename_i a n c; cases a <;> cases n <;> cases c <;> simp [xz] at h)
theorem RdL.zeros {w:World} {I:Nat→Prop}:∀ {vs:List Value} {fs:List FV},Zf vs fs=true→RdL w I vs fs
 | [], [], _ => RdL.nil
 | [], _ :: _, h => by simp [Zf] at h
 | _ :: _, [], h => by simp [Zf] at h
 | v :: vs, f :: fs, h => by
  simp only [Zf,Bool.and_eq_true] at h;exact RdL.cons (Rd.zero h.1) (RdL.zeros h.2)
def cval1:Value→FV
 | .int k n => .int k n
 | .bool b => .bool b
 | .string s => .str s
 | .slice none 0 0 => .nil
 | .map none => .nilm
 | _ => .undef
def cval:Value→FV
 | .agg cs => .agg (cs.toList.map cval1)
 | v => cval1 v
theorem Rd.cval1 {w:World} {I:Nat→Prop} (v:Value):Rd w I v (cval1 v):=by
 unfold Ytlnehfplfoikaaa.cval1;split <;> first|exact .int _ _|exact .bool _|exact .str _|exact .nil|exact .nilm|exact .undef _
theorem Rd.cval {w:World} {I:Nat→Prop} (v:Value):Rd w I v (cval v):=by
 unfold Ytlnehfplfoikaaa.cval;split
 ·rename_i cs;have:=Rd.agg (w:=w) (I:=I) cs.toList (cs.toList.map Ytlnehfplfoikaaa.cval1) zc (fun j u f hu hf=>by
   rw [List.getElem?_map,hu] at hf;simp only [Option.map_some,Option.some.injEq] at hf;subst hf;exact Rd.cval1 u)
  simpa using this
 ·exact Rd.cval1 v
theorem zbe (v:Value):(cval v).hand=none:=by
 unfold cval;split
 ·rfl
 ·unfold cval1;split <;> rfl
def FSt.ev (s:FSt):Operand→FV
 | .tmp t => s.get t
 | .const v => cval v
 | .func f => .fn f []
 | _ => .undef
section
variable {N:Nat} {w0 w:World} {J:JJ} {s:FSt} {a:Act} {β:Nat→Option Nat}
theorem FR.ev (h:FR N w0 J s a w β) (x:Operand):VR w (Imm J w β s) β s (a.eval x) (s.ev x):=by
 cases x with
 | tmp t => exact h.slot t
 | const v =>
  exact VR.of_rd (Rd.cval v) (zbe v)
 | global g => exact Rd.undef _
 | func f => exact VR.of_rd (Rd.fn f [] [] rfl zc) rfl
theorem FR.evers (h:FR N w0 J s a w β) (x:Operand) {id ver:Nat} (hf:(id,ver)∈(s.ev x).hands):ver≤(s.ob id).ver:=by
 cases x with
 | tmp t => exact h.vers t id ver hf
 | const v =>
  rw [FSt.ev] at hf;exact (FV.no_hands (zbe _) hf).elim
 | global g => simp [FSt.ev, FV.hands] at hf
 | func f => simp [FSt.ev, FV.hands] at hf
theorem FR.ev_int (h:FR N w0 J s a w β) {x:Operand} {k:IntKind} {n:Int} (e:s.ev x=.int k n):a.eval x=.int k n:=by
 have:=h.ev x;rw [e] at this;have:=VR.rd this rfl;generalize a.eval x=v at this;cases this;rfl
theorem FR.ev_bool (h:FR N w0 J s a w β) {x:Operand} {b:Bool} (e:s.ev x=.bool b):a.eval x=.bool b:=by
 have:=h.ev x;rw [e] at this;have:=VR.rd this rfl;generalize a.eval x=v at this;cases this;rfl
theorem FR.ev_nil (h:FR N w0 J s a w β) {x:Operand} (e:s.ev x=.nil):a.eval x=.slice none 0 0:=by
 have:=h.ev x;rw [e] at this;have:=VR.rd this rfl;generalize a.eval x=v at this;cases this;rfl
theorem FR.ev_rd (h:FR N w0 J s a w β) {x:Operand} {f:FV} (e:s.ev x=f) (hf:f.hand=none):Rd w (Imm J w β s) (a.eval x) f:=by
 have:=h.ev x;rw [e] at this;exact VR.rd this hf
theorem FR.ev_own (h:FR N w0 J s a w β) {x:Operand} {id ver o n:Nat} (e:s.ev x=.own id ver o n) (hl:(s.ob id).life≠.dead) (hv:(s.ob id).ver=ver):YC w (β id) (s.ob id) (a.eval x) o n:=by
 have:=h.ev x;rw [e] at this;exact this hl hv
theorem FR.ev_ptr (h:FR N w0 J s a w β) {x:Operand} {id ver i off:Nat} (e:s.ev x=.ptr id ver i off) (hl:(s.ob id).life≠.dead) (hv:(s.ob id).ver=ver):(s.ob id).life.slic=true∧∃ b,β id=some b∧a.eval x=.pointer (some ⟨b,i * (s.ob id).sz+off,none⟩):=by
 have:=h.ev x;rw [e] at this;exact this hl hv
theorem FR.ev_omap (h:FR N w0 J s a w β) {x:Operand} {id ver:Nat} (e:s.ev x=.omap id ver) (hl:(s.ob id).life≠.dead) (hv:(s.ob id).ver=ver):(s.ob id).life.slic=false∧∃ b,β id=some b∧a.eval x=.map (some b):=by
 have:=h.ev x;rw [e] at this;exact this hl hv
end
def ibin:BinOp→IntKind→Int→Int→Option FV
 | .add, k, a, b => some (.int k (k.wrap (a+b)))
 | .sub, k, a, b => some (.int k (k.wrap (a - b)))
 | .mul, k, a, b => some (.int k (k.wrap (a * b)))
 | .eql, _, a, b => some (.bool (a == b))
 | .neq, _, a, b => some (.bool (a != b))
 | .lss, _, a, b => some (.bool (decide (a<b)))
 | .leq, _, a, b => some (.bool (decide (a ≤ b)))
 | .gtr, _, a, b => some (.bool (decide (a > b)))
 | .geq, _, a, b => some (.bool (decide (a ≥ b)))
 | .and, k, a, b => some (.int k (k.wrap (BitVec.ofInt k.bits a &&& BitVec.ofInt k.bits b).toNat))
 | .or, k, a, b => some (.int k (k.wrap (BitVec.ofInt k.bits a ||| BitVec.ofInt k.bits b).toNat))
 | _, _, _, _ => none
section
variable {N:Nat} {w0 w:World} {J:JJ} {s:FSt} {a:Act} {β:Nat→Option Nat} {P:Program}
theorem zhD (op:BinOp) (T T2:TypeId) (x y:Operand) {k:IntKind} {m n:Int} {f:FV} (ex:a.eval x=.int k m) (ey:a.eval y=.int k n) (hf:ibin op k m n=some f) (dst:Option Nat) (ty:TypeId) (pos:String) (after:Array Edge) (g:Option (Nat×Bool)) (I:Nat→Prop) :
  ∃ v,(execOp a.eval ⟨dst,.binOp op T x y T2,ty,pos,after,g⟩).run P w=.ok (.value v) w∧Rd w I v f∧f.hand=none:=by
 cases op <;> simp only [ibin,Option.some.injEq,reduceCtorEq] at hf <;> subst hf <;>
  simp [execOp,eqGuard,binOp,ex,ey,Op.intArith,Op.intCmp,Op.intBits,FV.hand] <;> first|exact .int _ _|exact .bool _
theorem zgG (op:BinOp) (T T2:TypeId) (x y:Operand) {k yk:IntKind} {m n:Int} (ex:a.eval x=.int k m) (ey:a.eval y=.int yk n) (hn:0≤n) (hop:op=.shl∨op=.shr) (dst:Option Nat) (ty:TypeId) (pos:String) (after:Array Edge) (g:Option (Nat×Bool)) :
  (execOp a.eval ⟨dst,.binOp op T x y T2,ty,pos,after,g⟩).run P w=.ok (.value (.int k (if op=.shl then k.wrap (m * 2 ^ (min n.toNat k.bits)) else m.fdiv (2 ^ (min n.toNat k.bits))))) w:=by
 have hn' : ¬ n<0:=by omega
 rcases hop with rfl|rfl <;> simp [execOp,eqGuard,binOp,ex,ey,Op.shift,hn']
theorem zhE (op:BinOp) (T T2:TypeId) (x y:Operand) {k:IntKind} {m n:Int} (ex:a.eval x=.int k m) (ey:a.eval y=.int k n) (hn:n≠0) (hop:op=.quo∨op=.rem) (dst:Option Nat) (ty:TypeId) (pos:String) (after:Array Edge) (g:Option (Nat×Bool)) :
  (execOp a.eval ⟨dst,.binOp op T x y T2,ty,pos,after,g⟩).run P w=.ok (.value (.int k (if op=.quo then k.wrap (m.tdiv n) else m.tmod n))) w:=by
 rcases hop with rfl|rfl <;> simp [execOp,eqGuard,binOp,ex,ey,Op.intDiv,hn]
theorem zhC (op:BinOp) {T T2:TypeId} (x y:Operand) {m n:Bool} (hT:P.underlying T=some .bool) (ex:a.eval x=.bool m) (ey:a.eval y=.bool n) (hop:op=.eql∨op=.neq) (dst:Option Nat) (ty:TypeId) (pos:String) (after:Array Edge) (g:Option (Nat×Bool)) :
  (execOp a.eval ⟨dst,.binOp op T x y T2,ty,pos,after,g⟩).run P w=.ok (.value (.bool (if op=.eql then m == n else m != n))) w:=by
 have h1:∀ op:BinOp,(eqGuard op T x y (.bool m) (.bool n)).run P w=.ok () w:=fun op=>by cases op <;> simp [eqGuard]
 have h2:=run_equal_bool (P:=P) w T m n hT;rcases hop with rfl|rfl
 ·have e:binOp .eql T (.bool m) (.bool n)=(do pure (.bool (← Op.equal T (.bool m) (.bool n)))):=rfl;simp only [execOp,ex,ey,e,Sem.run_bind,Result.andThen,h1,h2,Sem.run_pure,if_true]
 ·have e:binOp .neq T (.bool m) (.bool n)=(do pure (.bool (!(← Op.equal T (.bool m) (.bool n))))):=rfl;simp only [execOp,ex,ey,e,Sem.run_bind,Result.andThen,h1,h2,Sem.run_pure,bne];rfl
end
theorem yM (b o n:Nat):(⟨b,o,none⟩:Addr).add n=⟨b,o+n,none⟩:=by
 unfold Addr.add;split
 ·rename_i h;subst h;rfl
 ·rfl
def xX (ts:TS) (cs:List FV):FV:=
 match ts.k.agg? with
 | some true => .agg (cs.take ts.size)
 | _ => cs.headD .undef
theorem yo {P:Program} {d:TypeDesc} {e:Nat} (h:xq P d (.slice e)=true):d=.slice e:=by
 cases d <;> simp [xq] at h
 subst h;rfl
theorem zaA {P:Program} {d:TypeDesc} {n e:Nat} (h:xq P d (.arr n e)=true):d=.array n e:=by
 cases d <;> simp [xq] at h
 obtain ⟨rfl,rfl⟩:=h;rfl
theorem zaB {P:Program} {d:TypeDesc} {n e:Nat} (h:xq P d (.map n e)=true):d=.map n e:=by
 cases d <;> simp [xq] at h
 obtain ⟨rfl,rfl⟩:=h;rfl
theorem zdG {P:Program} {d:TypeDesc} {k:IntKind} (h:xq P d (.int k)=true):d=.int k:=by
 cases d <;> simp [xq] at h
 subst h;rfl
theorem zbJ {P:Program} {d:TypeDesc} (h:xq P d .bool=true):d=.bool:=by
 cases d <;> first|rfl|(simp [xq] at h)
theorem zhh {P:Program} {d:TypeDesc} (h:xq P d .str=true):d=.string:=by
 cases d <;> first|rfl|(simp [xq] at h)
theorem XK {P:Program} {d:TypeDesc} {fs:List (Nat×Nat)} (h:xq P d (.strct fs)=true):∃ gs,d=.struct gs∧fs=gs.toList.map (fun f=>(f.offset,f.type))∧∀ f∈gs.toList,f.name≠"_":=by
 cases d <;> simp [xq] at h
 rename_i gs;refine ⟨gs,rfl,h.1,fun f hf=>?_⟩;obtain ⟨i,hi,rfl⟩:=List.getElem_of_mem hf;have:=h.2 i (by simpa using hi);simpa using this
theorem Zt {c:Ctx} {T:Nat} {b:Bool} (hk:(c.ty T).k.agg? = some b) (w:World):(isAgg T).run c.P w=.ok b w:=by
 cases hkk:(c.ty T).k with
 | other => rw [hkk] at hk; cases hk
 | any =>
  obtain ⟨d,i,z,h⟩:=c.get hkk zc;have hd:=h.k;rw [hkk] at hd hk;simp only [TK.agg?,Option.some.injEq] at hk;subst hk;cases d <;> first|(simp [xq] at hd;done)|simp [isAgg,run_underlying h.u]
 | _=>
  obtain ⟨d,i,z,h⟩:=c.get hkk zc;have hd:=h.k;rw [hkk] at hd hk
  first
   | (obtain ⟨gs, rfl, _⟩ := XK hd; simp only [TK.agg?, Option.some.injEq] at hk; subst hk; simp [isAgg, run_underlying h.u])
   | (obtain rfl := zaA hd; simp only [TK.agg?, Option.some.injEq] at hk; subst hk; simp [isAgg, run_underlying h.u])
   | (obtain rfl := zdG hd; simp only [TK.agg?, Option.some.injEq] at hk; subst hk; simp [isAgg, run_underlying h.u])
   | (obtain rfl := zbJ hd; simp only [TK.agg?, Option.some.injEq] at hk; subst hk; simp [isAgg, run_underlying h.u])
   | (obtain rfl := zhh hd; simp only [TK.agg?, Option.some.injEq] at hk; subst hk; simp [isAgg, run_underlying h.u])
   | (obtain rfl := yo hd; simp only [TK.agg?, Option.some.injEq] at hk; subst hk; simp [isAgg, run_underlying h.u])
   | (obtain rfl := zaB hd; simp only [TK.agg?, Option.some.injEq] at hk; subst hk; simp [isAgg, run_underlying h.u])
theorem zfy {k:TK} {b:Bool} (h:k.agg? = some b):k≠.other:=by rintro rfl;cases h
theorem yi {c:Ctx} {T:Nat} (hk:(c.ty T).k≠.other) (w:World):(sizeOf T).run c.P w=.ok (c.ty T).size w:=by
 obtain ⟨d,i,z,h⟩:=c.get rfl hk;simp [sizeOf,typeInfo,h.info,h.size]
theorem yw {c:Ctx} {T:Nat} (hk:(c.ty T).k≠.other) (w:World):∃ z,(zeroValue T).run c.P w=.ok z w∧Zf z.cells.toList (c.ty T).zero=true∧z.cells.size=(c.ty T).size:=by
 obtain ⟨d,i,z,h⟩:=c.get rfl hk;refine ⟨z,by simp [zeroValue,typeInfo,h.info,h.zo],h.zr,?_⟩;have:=(RdL.zeros (w:=w) (I:=fun _=>True) h.zr).1;rw [h.zl] at this;simpa using this
theorem YS {c:Ctx} {T:Nat} {bb:Bool} (hk:(c.ty T).k.agg? = some bb) (w:World) (b o:Nat) (us:List Value) (hl:(c.ty T).size≤us.length) (h1:bb=false→0<us.length)
  (hc:∀ (j:Nat) u,us[j]? = some u→w.cell? ⟨b,o+j,none⟩=some u) {I:Nat→Prop} {fs:List FV} (hr:RdL w I us fs) :
  ∃ v,(loadVar T ⟨b,o,none⟩).run c.P w=.ok v w∧Rd w I v (xX (c.ty T) fs):=by
 cases bb with
 | true=>
  refine ⟨.agg (us.take (c.ty T).size).toArray,?_,?_⟩
  ·have hs:=yi (zfy hk) w;have hlc:=run_loadCells_list (P:=c.P) (w:=w) ⟨b,o,none⟩ (us.take (c.ty T).size) (fun j v hv=>by
    rw [yM];rw [List.getElem?_take] at hv;split at hv
    ·exact hc j v hv
    ·cases hv)
   rw [List.length_take,Nat.min_eq_left hl] at hlc;simp [loadVar,Zt hk,hs,hlc]
  ·unfold xX;rw [hk];have:=hr.take (c.ty T).size;exact .agg _ _ this.1 this.2
 | false=>
  have h0:=h1 rfl;obtain ⟨u,rest,rfl⟩:∃ u rest,us=u::rest:=by cases us with|nil=>simp at h0|cons u r=>exact ⟨u,r,rfl⟩
  obtain ⟨f,gs,rfl⟩:∃ f gs,fs=f::gs:=by cases fs with|nil=>have:=hr.1;simp at this|cons f r=>exact ⟨f,r,rfl⟩
  refine ⟨u,?_,?_⟩
  ·have:=hc 0 u rfl;rw [Nat.add_zero] at this;simp [loadVar,Zt hk,load,Sem.run,this]
  ·unfold xX;rw [hk];exact hr.2 0 u f rfl rfl
def FV.cells:FV→List FV
 | .agg cs => cs
 | f => [f]
theorem Rd.oneCell {w:World} {I:Nat→Prop} {v:Value} {f:FV} (h:Rd w I v f) (hf:f.one=true):v.oneCell'=true:=by
 cases h <;> first|rfl|(simp [FV.one] at hf)
theorem Rd.cells {w:World} {I:Nat→Prop} {v:Value} {f:FV} (h:Rd w I v f) (hf:f.cells.all FV.one=true):RdL w I v.cells.toList f.cells∧(∀ u∈v.cells.toList,u.oneCell'=true):=by
 have key:RdL w I v.cells.toList f.cells:=by
  cases h with
  | agg us fs hl hr => exact ⟨by simpa [Value.cells, FV.cells] using hl, by simpa [Value.cells, FV.cells] using hr⟩
  | undef v => simp [FV.cells, FV.one] at hf
  | tup us fs hl hr => simp [FV.cells, FV.one] at hf
  | eptr b off sz es i o us hI he ho hA hl hr => exact RdL.cons (.eptr b off sz es i o us hI he ho hA hl hr) RdL.nil
  | bnd f us fs hl hr => exact RdL.cons (.bnd f us fs hl hr) RdL.nil
  | perm v sz es es' hp hr => simp [FV.cells, FV.one] at hf
  | int k n => exact RdL.cons (.int k n) .nil
  | bool b => exact RdL.cons (.bool b) .nil
  | str s => exact RdL.cons (.str s) .nil
  | nil => exact RdL.cons .nil RdL.nil
  | nilm => exact RdL.cons .nilm RdL.nil
  | list A n c sz es us hn hc he ho hA hl hr => exact RdL.cons (.list A n c sz es us hn hc he ho hA hl hr) RdL.nil
  | smap b clock ents es hI hb hst hl hk hr => exact RdL.cons (.smap b clock ents es hI hb hst hl hk hr) RdL.nil
  | fn f us fs hl hr => exact RdL.cons (.fn f us fs hl hr) RdL.nil
  | iface t v f hr => exact RdL.cons (.iface t v f hr) RdL.nil
 refine ⟨key,fun u hu=>?_⟩;obtain ⟨j,hj,rfl⟩:=List.getElem_of_mem hu;have hj2:j<f.cells.length:=by rw [← key.1];exact hj
 refine (key.2 j _ f.cells[j] zc (by simp [hj2])).oneCell ?_;rw [List.all_eq_true] at hf;exact hf _ (List.getElem_mem hj2)
theorem Rd.nohand {f:FV} (hf:f.cells.all FV.one=true):f.hand=none:=by
 cases f <;> first|rfl|(simp [FV.cells,FV.one] at hf)
def FSt.wr (s:FSt) (l:List (Nat×zn)):FSt:=l.foldl (fun s p=>s.set p.1 p.2) s
theorem FSt.wr_get (l:List (Nat×zn)):∀ (s:FSt) (k:Nat),(s.wr l).get k=s.get k:=by
 induction l with
 | nil => exact fun _ _ => rfl
 | cons p l ih => exact fun s k => ih (s.set p.1 p.2) k
def FSt.live (s:FSt) (id ver:Nat):Prop:=(s.ob id).life≠.dead∧(s.ob id).ver=ver
def yL (c:Ctx) (w0:World) (J:JJ) (s:FSt) (a:Act) (o:Oper) (w:World) (f:FV) (wr:List (Nat×zn)):Prop:=
 ∃ v w' β',(execOp a.eval o).run c.P w=.ok (.value v) w'∧FR c.N w0 J (s.wr wr) a w' β'∧VR w' (Imm J w' β' (s.wr wr)) β' (s.wr wr) v f∧∀ id ver,(id,ver)∈f.hands→ver≤((s.wr wr).ob id).ver
section
variable {c:Ctx} {w0 w:World} {J:JJ} {s:FSt} {a:Act} {β:Nat→Option Nat} {dst:Option Nat} {ty:TypeId} {pos:String} {after:Array Edge} {g:Option (Nat×Bool)}
theorem yL.pure {o:Oper} {v:Value} {f:FV} (h:FR c.N w0 J s a w β) (hr:(execOp a.eval o).run c.P w=.ok (.value v) w) (hf:VR w (Imm J w β s) β s v f) (hv:∀ id ver,(id,ver)∈f.hands→ver≤(s.ob id).ver):yL c w0 J s a o w f []:=
 ⟨v,w,β,hr,h,hf,hv⟩
theorem yL.rd {o:Oper} {v:Value} {f:FV} (h:FR c.N w0 J s a w β) (hr:(execOp a.eval o).run c.P w=.ok (.value v) w) (hf:Rd w (Imm J w β s) v f) (hn:f.hand=none):yL c w0 J s a o w f []:=
 .pure h hr (VR.of_rd hf hn) (fun id ver e=>(FV.no_hands hn e).elim)
theorem zfY (h:FR c.N w0 J s a w β) (x:Operand):yL c w0 J s a ⟨dst,.move x,ty,pos,after,g⟩ w (s.ev x) []:=
 .pure h (v:=a.eval x) (by simp [execOp]) (h.ev x) (fun id ver e=>h.evers x e)
theorem zcO (h:FR c.N w0 J s a w β) (x:Operand):yL c w0 J s a ⟨dst,.assign x,ty,pos,after,g⟩ w (s.ev x) []:=
 .pure h (v:=a.eval x) (by simp [execOp]) (h.ev x) (fun id ver e=>h.evers x e)
theorem zfZ (h:FR c.N w0 J s a w β) (cnd x y:Operand) {b:Bool} (hb:s.ev cnd=.bool b):yL c w0 J s a ⟨dst,.pick cnd x y,ty,pos,after,g⟩ w (if b then s.ev x else s.ev y) []:=by
 have e:=h.ev_bool hb;cases b
 ·exact .pure h (v:=a.eval y) (by simp [execOp,e,asBool]) (h.ev y) (fun id ver e=>h.evers y e)
 ·exact .pure h (v:=a.eval x) (by simp [execOp,e,asBool]) (h.ev x) (fun id ver e=>h.evers x e)
theorem zfU (h:FR c.N w0 J s a w β) (op:BinOp) (T T2:TypeId) (x y:Operand) {k:IntKind} {m n:Int} {f:FV} (ex:s.ev x=.int k m) (ey:s.ev y=.int k n) (hf:ibin op k m n=some f) :
  yL c w0 J s a ⟨dst,.binOp op T x y T2,ty,pos,after,g⟩ w f []:=by
 obtain ⟨v,h1,h2,h3⟩:=zhD (P:=c.P) (w:=w) op T T2 x y (h.ev_int ex) (h.ev_int ey) hf dst ty pos after g (Imm J w β s);exact .rd h h1 h2 h3
theorem zfV (h:FR c.N w0 J s a w β) (op:BinOp) (T T2:TypeId) (x y:Operand) {k:IntKind} {m n:Int} (ex:s.ev x=.int k m) (ey:s.ev y=.int k n) (hn:n≠0) (hop:op=.quo∨op=.rem) :
  yL c w0 J s a ⟨dst,.binOp op T x y T2,ty,pos,after,g⟩ w (.int k (if op=.quo then k.wrap (m.tdiv n) else m.tmod n)) []:=
 .rd h (zhE (P:=c.P) (w:=w) op T T2 x y (h.ev_int ex) (h.ev_int ey) hn hop dst ty pos after g) (.int _ _) rfl
theorem zes (h:FR c.N w0 J s a w β) (op:BinOp) (T T2:TypeId) (x y:Operand) {k yk:IntKind} {m n:Int} (ex:s.ev x=.int k m) (ey:s.ev y=.int yk n) (hn:0≤n) (hop:op=.shl∨op=.shr) :
  yL c w0 J s a ⟨dst,.binOp op T x y T2,ty,pos,after,g⟩ w (.int k (if op=.shl then k.wrap (m * 2 ^ (min n.toNat k.bits)) else m.fdiv (2 ^ (min n.toNat k.bits)))) []:=
 .rd h (zgG (P:=c.P) (w:=w) op T T2 x y (h.ev_int ex) (h.ev_int ey) hn hop dst ty pos after g) (.int _ _) rfl
theorem zfS (h:FR c.N w0 J s a w β) {T T2:TypeId} {k2:IntKind} (hT:(c.ty T).k≠.other) (hT2:(c.ty T2).k=.int k2) (x:Operand) {k:IntKind} {n:Int} (ex:s.ev x=.int k n) :
  yL c w0 J s a ⟨dst,.convert T T2 x,ty,pos,after,g⟩ w (.int k2 (k2.wrap n)) []:=by
 obtain ⟨d1,i1,z1,h1⟩:=c.get (T:=T) rfl hT;obtain ⟨d2,i2,z2,h2⟩:=c.get hT2 zc;have hd2:=h2.k;rw [hT2] at hd2;obtain rfl:=zdG hd2;refine .rd h (v:=.int k2 (k2.wrap n)) ?_ (.int _ _) rfl;have hc:(convert T T2 (.int k n)).run c.P w=.ok (.int k2 (k2.wrap n)) w:=by
  unfold convert;simp [run_underlying h1.u,run_underlying h2.u,Conv.intToInt]
 simp [execOp,h.ev_int ex,hc]
theorem zfR (h:FR c.N w0 J s a w β) (op:BinOp) {T T2:TypeId} (x y:Operand) {m n:Bool} (hT:(c.ty T).k=.bool) (ex:s.ev x=.bool m) (ey:s.ev y=.bool n) (hop:op=.eql∨op=.neq) :
  yL c w0 J s a ⟨dst,.binOp op T x y T2,ty,pos,after,g⟩ w (.bool (if op=.eql then m == n else m != n)) []:=by
 obtain ⟨d,i,z,ht⟩:=c.get hT zc;have hd:=ht.k;rw [hT] at hd;obtain rfl:=zbJ hd;exact .rd h (zhC (P:=c.P) (w:=w) op x y ht.u (h.ev_bool ex) (h.ev_bool ey) hop dst ty pos after g) (.bool _) rfl
theorem zhb (h:FR c.N w0 J s a w β) (T:TypeId) (x:Operand) {b:Bool} (ex:s.ev x=.bool b):yL c w0 J s a ⟨dst,.unOp .not T x,ty,pos,after,g⟩ w (.bool (!b)) []:=
 .rd h (v:=.bool (!b)) (by simp [execOp,h.ev_bool ex,Op.unary]) (.bool _) rfl
theorem zha (h:FR c.N w0 J s a w β) (T:TypeId) (x:Operand) {k:IntKind} {n:Int} (ex:s.ev x=.int k n):yL c w0 J s a ⟨dst,.unOp .neg T x,ty,pos,after,g⟩ w (.int k (k.wrap (-n))) []:=
 .rd h (v:=.int k (k.wrap (-n))) (by simp [execOp,h.ev_int ex,Op.unary,Op.intArith]) (.int _ _) rfl
theorem zfX (h:FR c.N w0 J s a w β) (bi:Builtin) (T T2:TypeId) (x y:Operand) {k:IntKind} {m n:Int} (ex:s.ev x=.int k m) (ey:s.ev y=.int k n) (hbi:bi=.min∨bi=.max) :
  yL c w0 J s a ⟨dst,.call { callee:=.builtin bi,args:=#[x,y],argTypes:=#[T,T2] },ty,pos,after,g⟩ w (.int k (if bi=.min then (if n<m then n else m) else (if m<n then n else m))) []:=by
 rcases hbi with rfl|rfl
 ·refine .rd h (v:=.int k (if n<m then n else m)) ?_ (.int _ _) rfl;simp [execOp,resolve,invoke,builtin,Builtin.min_,Builtin.min2,h.ev_int ex,h.ev_int ey]
 ·refine .rd h (v:=.int k (if m<n then n else m)) ?_ (.int _ _) rfl;simp [execOp,resolve,invoke,builtin,Builtin.max_,Builtin.max2,h.ev_int ex,h.ev_int ey]
theorem zdd {T e:TypeId} (hT:(c.ty T).k=.slice e) (x:Operand) {A:Option Addr} {n cc:Nat} (ex:a.eval x=.slice A n cc) :
  (execOp a.eval ⟨dst,.call { callee:=.builtin .len,args:=#[x],argTypes:=#[T] },ty,pos,after,g⟩).run c.P w=.ok (.value (.int .i64 n)) w:=by
 obtain ⟨d,i,z,ht⟩:=c.get hT zc;have hd:=ht.k;rw [hT] at hd;obtain rfl:=yo hd;simp [execOp,resolve,invoke,builtin,Builtin.len_,ex,run_underlying ht.u,goInt]
theorem zbz (h:FR c.N w0 J s a w β) {T e:TypeId} (hT:(c.ty T).k=.slice e) (x:Operand) {id ver o n:Nat} (ex:s.ev x=.own id ver o n) (hl:s.live id ver) :
  yL c w0 J s a ⟨dst,.call { callee:=.builtin .len,args:=#[x],argTypes:=#[T] },ty,pos,after,g⟩ w (.int .i64 n) []:=by
 obtain ⟨A,cc,h1,_⟩:=(h.ev_own ex hl.1 hl.2).ex;exact .rd h (zdd hT x h1) (.int _ _) rfl
theorem zaw (h:FR c.N w0 J s a w β) {T e:TypeId} (hT:(c.ty T).k=.slice e) (x:Operand) {sz:Nat} {es:List (List FV)} (ex:s.ev x=.list sz es) :
  yL c w0 J s a ⟨dst,.call { callee:=.builtin .len,args:=#[x],argTypes:=#[T] },ty,pos,after,g⟩ w (.int .i64 es.length) []:=by
 have hr:=h.ev_rd ex rfl;generalize hx:a.eval x=v at hr;cases hr with
 | list A n cc sz es us hn => subst hn; exact .rd h (zdd hT x hx) (.int _ _) rfl
theorem zby (h:FR c.N w0 J s a w β) {T e:TypeId} (hT:(c.ty T).k=.slice e) (x:Operand) (ex:s.ev x=.nil) :
  yL c w0 J s a ⟨dst,.call { callee:=.builtin .len,args:=#[x],argTypes:=#[T] },ty,pos,after,g⟩ w (.int .i64 0) []:=
 .rd h (by have:=zdd (c:=c) (w:=w) (dst:=dst) (ty:=ty) (pos:=pos) (after:=after) (g:=g) hT x (h.ev_nil ex);simpa using this) (.int _ _) rfl
theorem FR.ev_eptr (h:FR c.N w0 J s a w β) {x:Operand} {sz i o:Nat} {es:List (List FV)} (e:s.ev x=.eptr sz es i o) :
  ∃ b off us,a.eval x=.pointer (some ⟨b,off+(i * sz+o),none⟩)∧Imm J w β s b∧(∀ e∈es,e.length=sz)∧(∀ f∈es.flatten,f.one=true)∧(∀ (j:Nat) u,us[j]? = some u→w.cell? ⟨b,off+j,none⟩=some u)∧RdL w (Imm J w β s) us es.flatten:=by
 have hr:=h.ev_rd e rfl;generalize a.eval x=v at hr;cases hr with
 | eptr b off sz es i o us hI he ho hA hl hr => exact ⟨b, off, us, rfl, hI, he, ho, hA, hl, hr⟩
theorem zcg {T ft i off:Nat} {fs:List (Nat×Nat)} (hT:(c.ty T).k=.strct fs) (hf:fs[i]? = some (off,ft)) (hft:(c.ty ft).k≠.other) (hsz:(c.ty ft).size≠0) (x:Operand) {b o:Nat} (ex:a.eval x=.pointer (some ⟨b,o,none⟩)) :
  (execOp a.eval ⟨dst,.fieldAddr T x i,ty,pos,after,g⟩).run c.P w=.ok (.value (.pointer (some ⟨b,o+off,none⟩))) w:=by
 obtain ⟨d,ii,z,ht⟩:=c.get hT zc;have hd:=ht.k;rw [hT] at hd;obtain ⟨gs,rfl,hfs,_⟩:=XK hd;rw [hfs,List.getElem?_map] at hf;cases hg:gs.toList[i]? with
 | none => rw [hg] at hf; cases hf
 | some fl =>
  rw [hg] at hf;simp only [Option.map_some,Option.some.injEq,Prod.mk.injEq] at hf;obtain ⟨rfl,rfl⟩:=hf;have hg' : gs[i]? = some fl:=by simpa using hg
  have hs:=yi (c:=c) hft w;simp [execOp,Instr.fieldAt,run_underlying ht.u,hg',ex,Instr.sureAddr,fieldPlace,hs,hsz,yM]
theorem Um (h:FR c.N w0 J s a w β) {T ft i off:Nat} {fs:List (Nat×Nat)} (hT:(c.ty T).k=.strct fs) (hf:fs[i]? = some (off,ft)) (hft:(c.ty ft).k≠.other) (hsz:(c.ty ft).size≠0) (x:Operand)
  {id ver j o:Nat} (ex:s.ev x=.ptr id ver j o) (hl:s.live id ver):yL c w0 J s a ⟨dst,.fieldAddr T x i,ty,pos,after,g⟩ w (.ptr id ver j (o+off)) []:=by
 obtain ⟨hrow,b,hb,hv⟩:=h.ev_ptr ex hl.1 hl.2;refine .pure h (zcg hT hf hft hsz x hv) (fun _ _=>⟨hrow,b,hb,by rw [Nat.add_assoc]⟩) (fun id' ver' e=>h.evers x (by rw [ex];exact e))
theorem Ve (h:FR c.N w0 J s a w β) {T ft i off:Nat} {fs:List (Nat×Nat)} (hT:(c.ty T).k=.strct fs) (hf:fs[i]? = some (off,ft)) (hft:(c.ty ft).k≠.other) (hsz:(c.ty ft).size≠0) (x:Operand)
  {sz j o:Nat} {es:List (List FV)} (ex:s.ev x=.eptr sz es j o):yL c w0 J s a ⟨dst,.fieldAddr T x i,ty,pos,after,g⟩ w (.eptr sz es j (o+off)) []:=by
 obtain ⟨b,off',us,hv,hI,he,ho,hA,hr⟩:=h.ev_eptr ex;refine .rd h (zcg hT hf hft hsz x hv) ?_ rfl;have:=Rd.eptr (w:=w) (I:=Imm J w β s) b off' sz es j (o+off) us hI he ho hA hr.1 hr.2;rwa [show off'+(j * sz+(o+off))=off'+(j * sz+o)+off by omega] at this
theorem zch {T e:Nat} (hT:(c.ty T).k=.slice e) (he:(c.ty e).k≠.other) (x y:Operand) {b o m cc:Nat} {k:IntKind} {n:Int} (ex:a.eval x=.slice (some ⟨b,o,none⟩) m cc) (ey:a.eval y=.int k n) (h0:0≤n) (h1:n<m) :
  (execOp a.eval ⟨dst,.indexAddr T x y,ty,pos,after,g⟩).run c.P w=.ok (.value (.pointer (some ⟨b,o+n.toNat * (c.ty e).size,none⟩))) w:=by
 obtain ⟨d,ii,z,ht⟩:=c.get hT zc;have hd:=ht.k;rw [hT] at hd;obtain rfl:=yo hd;have hs:=yi (c:=c) he w;simp [execOp,Instr.indexAt,run_underlying ht.u,ex,ey,asIntOf,hs,h0,h1,yM]
theorem Vg (h:FR c.N w0 J s a w β) {T e:Nat} (hT:(c.ty T).k=.slice e) (he:(c.ty e).k≠.other) (x y:Operand) {sz:Nat} {es:List (List FV)} {k:IntKind} {n:Nat} (ex:s.ev x=.list sz es) (hsz:(c.ty e).size=sz)
  (ey:s.ev y=.int k n) (h1:n<es.length):yL c w0 J s a ⟨dst,.indexAddr T x y,ty,pos,after,g⟩ w (.eptr sz es n 0) []:=by
 have hr:=h.ev_rd ex rfl;generalize hx:a.eval x=v at hr;cases hr with
 | list A m cc sz es us hn hc hw ho hA hl hr =>
  subst hn;obtain ⟨b,off,rfl,hI,hcell⟩:=hA zb;refine .rd h (zch hT he x y hx (h.ev_int ey) zb zb) ?_ rfl;have:=Rd.eptr (w:=w) (I:=Imm J w β s) b off sz es n 0 us hI hw ho hcell hl hr;rw [hsz];simpa using this
theorem Un (h:FR c.N w0 J s a w β) {T e:Nat} (hT:(c.ty T).k=.slice e) (he:(c.ty e).k≠.other) (x y:Operand) {id ver o m:Nat} {k:IntKind} {n:Nat} (ex:s.ev x=.own id ver o m) (hl:s.live id ver) (hsz:(c.ty e).size=(s.ob id).sz)
  (ey:s.ev y=.int k n) (h1:n<m):yL c w0 J s a ⟨dst,.indexAddr T x y,ty,pos,after,g⟩ w (.ptr id ver (o+n) 0) []:=by
 have hrow:=(h.ev_own ex hl.1 hl.2).row;obtain ⟨A,cc,e1,e2,e3,e4,e5⟩:=(h.ev_own ex hl.1 hl.2).ex;cases hb:β id with
 | none => have := (e4 hb).2; omega
 | some b =>
  obtain ⟨o',rfl,k2,k3⟩:=e5 b hb;have ho':=k2 (.inl zb);subst ho';refine .pure h (zch hT he x y e1 (h.ev_int ey) zb zb) (fun _ _=>⟨hrow,b,hb,?_⟩) (fun id' ver' e=>h.evers x (by rw [ex];exact e));rw [hsz];simp [Nat.add_mul]
theorem zab {T n e:Nat} (hT:(c.ty T).k=.arr n e) (he:(c.ty e).k≠.other) (x y:Operand) {b o:Nat} {k:IntKind} {i:Int} (ex:a.eval x=.pointer (some ⟨b,o,none⟩)) (ey:a.eval y=.int k i) (h0:0≤i) (h1:i<n) :
  (execOp a.eval ⟨dst,.indexAddr T x y,ty,pos,after,g⟩).run c.P w=.ok (.value (.pointer (some ⟨b,o+i.toNat * (c.ty e).size,none⟩))) w:=by
 obtain ⟨d,ii,z,ht⟩:=c.get hT zc;have hd:=ht.k;rw [hT] at hd;obtain rfl:=zaA hd;have hs:=yi (c:=c) he w;simp [execOp,Instr.indexAt,run_underlying ht.u,ex,ey,asIntOf,hs,h0,h1,yM,Instr.sureAddr]
theorem Vf (h:FR c.N w0 J s a w β) {T m e:Nat} (hT:(c.ty T).k=.arr m e) (he:(c.ty e).k≠.other) (x y:Operand) {id ver j o:Nat} {k:IntKind} {n:Nat} (ex:s.ev x=.ptr id ver j o) (hl:s.live id ver)
  (ey:s.ev y=.int k n) (h1:n<m):yL c w0 J s a ⟨dst,.indexAddr T x y,ty,pos,after,g⟩ w (.ptr id ver j (o+n * (c.ty e).size)) []:=by
 obtain ⟨hrow,b,hb,hv⟩:=h.ev_ptr ex hl.1 hl.2;refine .pure h (zab hT he x y hv (h.ev_int ey) zb zb) (fun _ _=>⟨hrow,b,hb,by simp [Nat.add_assoc]⟩) (fun id' ver' e=>h.evers x (by rw [ex];exact e))
theorem Ww (h:FR c.N w0 J s a w β) {T m e:Nat} (hT:(c.ty T).k=.arr m e) (he:(c.ty e).k≠.other) (x y:Operand) {sz j o:Nat} {es:List (List FV)} {k:IntKind} {n:Nat} (ex:s.ev x=.eptr sz es j o)
  (ey:s.ev y=.int k n) (h1:n<m):yL c w0 J s a ⟨dst,.indexAddr T x y,ty,pos,after,g⟩ w (.eptr sz es j (o+n * (c.ty e).size)) []:=by
 obtain ⟨b,off',us,hv,hI,hw,ho,hA,hr⟩:=h.ev_eptr ex;refine .rd h (zab hT he x y hv (h.ev_int ey) zb zb) ?_ rfl;have:=Rd.eptr (w:=w) (I:=Imm J w β s) b off' sz es j (o+n * (c.ty e).size) us hI hw ho hA hr.1 hr.2;simp only [Int.toNat_natCast];rwa [show off'+(j * sz+(o+n * (c.ty e).size))=off'+(j * sz+o)+n * (c.ty e).size by omega] at this
theorem ZU {α:Type} {sz:Nat}:∀ (es:List (List α)),(∀ e∈es,e.length=sz)→∀ (i o:Nat),i<es.length→o≤sz→es.flatten.drop (i * sz+o)=(es.getD i []).drop o++(es.drop (i+1)).flatten
 | [], _, i, _, hi, _ => by simp at hi
 | e :: es, he, 0, o, _, ho => by
  have h1:=he e zc;simp only [Nat.zero_mul,Nat.zero_add,List.flatten_cons,List.getD_cons_zero,List.drop_one,List.tail_cons];rw [List.drop_append,h1,Nat.sub_eq_zero_of_le ho,List.drop_zero]
 | e :: es, he, i+1, o, hi, ho => by
  have h1:=he e zc;have ih:=ZU es (fun x hx=>he x (by simp [hx])) i o (by simpa using hi) ho;rw [show (i+1) * sz+o=sz+(i * sz+o) by rw [Nat.add_mul];omega,List.flatten_cons,← List.drop_drop,← h1,List.drop_left,h1,ih];simp
theorem yR {α:Type} {sz:Nat} {es:List (List α)} (he:∀ e∈es,e.length=sz):es.flatten.length=es.length * sz:=by
 induction es with
 | nil => simp
 | cons e es ih => rw [List.flatten_cons, List.length_append, ih (fun x hx => he x (by simp [hx])), he e zc, List.length_cons, Nat.add_mul]; omega
theorem WC {α:Type} {sz:Nat} {es:List (List α)} (he:∀ e∈es,e.length=sz) {i:Nat} (hi:i<es.length):(es.getD i []).length=sz:=by
 rw [List.getD_eq_getElem?_getD,List.getElem?_eq_getElem hi];exact he _ (List.getElem_mem hi)
theorem Yb {ts:TS} {cs ds:List FV} (h:ts.size≤cs.length) (h1:cs≠[]):xX ts (cs++ds)=xX ts cs:=by
 unfold xX;split
 ·rw [List.take_append_of_le_length h]
 ·cases cs with
  | nil => exact absurd rfl h1
  | cons x xs => rfl
theorem Uo (h:FR c.N w0 J s a w β) {T:Nat} {bb:Bool} (hk:(c.ty T).k.agg? = some bb) (x:Operand) {sz j o:Nat} {es:List (List FV)} (ex:s.ev x=.eptr sz es j o) (hj:j<es.length) (ho:o+(c.ty T).size≤sz) (ho' : o<sz) :
  yL c w0 J s a ⟨dst,.load T x,ty,pos,after,g⟩ w (xX (c.ty T) ((es.getD j []).drop o)) []:=by
 obtain ⟨b,off',us,hv,hI,hw,hone,hA,hr⟩:=h.ev_eptr ex;have hd:=hr.drop (j * sz+o);rw [ZU es hw j o hj zb] at hd;have hlen:((es.getD j []).drop o).length=sz - o:=by rw [List.length_drop,WC hw hj]
 have hul:=hd.1;rw [List.length_append,hlen] at hul;obtain ⟨v,r1,r2⟩:=YS hk w b (off'+(j * sz+o)) (us.drop (j * sz+o)) zb (fun _=>by omega) (fun i u hu=>by
  rw [List.getElem?_drop] at hu;have:=hA _ u hu;rwa [show off'+(j * sz+o)+i=off'+(j * sz+o+i) by omega]) hd
 rw [Yb zb (fun e=>by rw [e] at hlen;simp at hlen;omega)] at r2;have hnh:(xX (c.ty T) ((es.getD j []).drop o)).hand=none:=by
  unfold xX;split
  ·rfl
  ·have hm:((es.getD j []).drop o).headD .undef∈es.flatten:=by
    cases hcs:(es.getD j []).drop o with
    | nil => rw [hcs] at hlen; simp at hlen; omega
    | cons y ys =>
     have hy:y∈es.getD j []:=List.mem_of_mem_drop (i:=o) (by rw [hcs];simp);rw [List.getD_eq_getElem?_getD,List.getElem?_eq_getElem hj] at hy;exact List.mem_flatten.2 ⟨es[j],List.getElem_mem hj,hy⟩
   have:=hone _ hm;generalize ((es.getD j []).drop o).headD .undef=f at this;cases f <;> first|rfl|(simp [FV.one] at this)
 exact .rd h (by simp [execOp,Instr.loadAt,hv,Instr.sureAddr,r1]) r2 hnh
theorem FR.block (h:FR c.N w0 J s a w β) {id:Nat} (hl:(s.ob id).life≠.dead) (hrl:(s.ob id).life.row=true) {b:Nat} (hb:β id=some b) :
  ∃ cur cap,w.heap[b]? = some (.cells cur (s.ob id).E (0,0))∧(s.ob id).es.length≤cap∧cap≤maxLen∧cur.size=cap * (s.ob id).sz∧
   RdL w (Imm J w β s) (cur.toList.take ((s.ob id).es.length * (s.ob id).sz)) (s.ob id).es.flatten∧w.ownsRow w0.heap.size (s.ob id).E (s.ob id).sz (.slice (some ⟨b,0,none⟩) (s.ob id).es.length cap) (s.ob id).es.length (cur.toList.take ((s.ob id).es.length * (s.ob id).sz)):=by
 obtain ⟨v,us,r1,r2,r3⟩:=((h.obj id hl).rowR hrl).row;have r1':=r1;rcases r1.2 with ⟨rfl,_⟩|⟨g',cap,cur,rfl,_,hgg,hn,hm,hcs,htk⟩
 ·rw [← r2] at hb;simp [Value.ownBlock] at hb
 ·have hgb:g'=b:=by rw [← r2] at hb;simpa [Value.ownBlock] using hb
  subst hgb;subst htk;exact ⟨cur,cap,hgg,hn,hm,hcs,r3,r1'⟩
theorem Xi (h:FR c.N w0 J s a w β) {T:Nat} {bb:Bool} (hk:(c.ty T).k.agg? = some bb) (x:Operand) {id ver j o:Nat} (ex:s.ev x=.ptr id ver j o) (hl:s.live id ver) (hrl:(s.ob id).life.row=true) (hj:j<(s.ob id).es.length) (ho:o+(c.ty T).size≤(s.ob id).sz) (ho' : o<(s.ob id).sz) :
  yL c w0 J s a ⟨dst,.load T x,ty,pos,after,g⟩ w (xX (c.ty T) (((s.ob id).es.getD j []).drop o)) []:=by
 obtain ⟨_,b,hb,hv⟩:=h.ev_ptr ex hl.1 hl.2;obtain ⟨cur,cap,hblk,hn,hm,hcs,hr,hrow⟩:=h.block hl.1 hrl hb;have hw:=((h.obj id hl.1).rowR hrl).wide;have hone:=((h.obj id hl.1).rowR hrl).one;generalize (s.ob id).es=es at hj hn hr hrow hw hone ⊢;generalize (s.ob id).sz=sz at ho ho' hcs hr hrow hw hv ⊢;have hd:=hr.drop (j * sz+o);rw [ZU es hw j o hj zb] at hd;have hlen:((es.getD j []).drop o).length=sz - o:=by rw [List.length_drop,WC hw hj]
 have hul:=hd.1;rw [List.length_append,hlen] at hul;obtain ⟨v,r1,r2⟩:=YS hk w b (j * sz+o) ((cur.toList.take (es.length * sz)).drop (j * sz+o)) zb (fun _=>by omega) (fun i u hu=>by
  rw [List.getElem?_drop,List.getElem?_take] at hu;rw [cell_of_row w b _ cur (s.ob id).E (0,0) hblk];split at hu
  ·simpa using hu
  ·cases hu) hd
 rw [Yb zb (fun e=>by rw [e] at hlen;simp at hlen;omega)] at r2;have hnh:(xX (c.ty T) ((es.getD j []).drop o)).hand=none:=by
  unfold xX;split
  ·rfl
  ·have hm:((es.getD j []).drop o).headD .undef∈es.flatten:=by
    cases hcs:(es.getD j []).drop o with
    | nil => rw [hcs] at hlen; simp at hlen; omega
    | cons y ys =>
     have hy:y∈es.getD j []:=List.mem_of_mem_drop (i:=o) (by rw [hcs];simp);rw [List.getD_eq_getElem?_getD,List.getElem?_eq_getElem hj] at hy;exact List.mem_flatten.2 ⟨es[j],List.getElem_mem hj,hy⟩
   have:=hone _ hm;generalize ((es.getD j []).drop o).headD .undef=f at this;cases f <;> first|rfl|(simp [FV.one] at this)
 exact .rd h (by simp [execOp,Instr.loadAt,hv,Instr.sureAddr,r1]) r2 hnh
end
def splice {α:Type} (cs:List α) (o:Nat) (ds:List α):List α:=cs.take o++ds++cs.drop (o+ds.length)
theorem yt {α:Type} {cs ds:List α} {o:Nat} (h:o+ds.length≤cs.length):(splice cs o ds).length=cs.length:=by
 unfold splice;simp;omega
theorem RdL.splice {w:World} {I:Nat→Prop} {us vs:List Value} {fs gs:List FV} (h:RdL w I us fs) (k:RdL w I vs gs) (o:Nat):RdL w I (splice us o vs) (splice fs o gs):=by
 unfold Ytlnehfplfoikaaa.splice;rw [k.1];exact ((h.take o).append k).append (h.drop _)
theorem Vb {α:Type} {sz:Nat}:∀ (es:List (List α)),(∀ e∈es,e.length=sz)→∀ (i o:Nat) (ds:List α),i<es.length→o+ds.length≤sz→
  (es.set i (splice (es.getD i []) o ds)).flatten=splice es.flatten (i * sz+o) ds
 | [], _, i, _, _, hi, _ => by simp at hi
 | e :: es, he, 0, o, ds, _, ho => by
  have h1:=he e zc;simp only [List.set_cons_zero,List.getD_cons_zero,List.flatten_cons,Nat.zero_mul,Nat.zero_add];unfold splice;rw [List.take_append_of_le_length zb,List.drop_append_of_le_length zb];simp [List.append_assoc]
 | e :: es, he, i+1, o, ds, hi, ho => by
  have h1:=he e zc;have ih:=Vb es (fun x hx=>he x (by simp [hx])) i o ds (by simpa using hi) ho;simp only [List.set_cons_succ,List.getD_cons_succ,List.flatten_cons];rw [ih];unfold splice;have e1:(i+1) * sz+o=e.length+(i * sz+o):=by rw [Nat.add_mul,h1];omega
  rw [e1,List.take_length_add_append,show e.length+(i * sz+o)+ds.length=e.length+(i * sz+o+ds.length) by omega,List.drop_length_add_append];simp [List.append_assoc]
theorem zhF {α:Type} {sz:Nat} {es:List (List α)} (he:∀ e∈es,e.length=sz) {i o:Nat} {ds:List α} (hi:i<es.length) (ho:o+ds.length≤sz):∀ e∈es.set i (splice (es.getD i []) o ds),e.length=sz:=by
 intro e hm;rcases List.mem_or_eq_of_mem_set hm with h|h
 ·exact he e h
 ·subst h;have:=WC he hi;rw [yt zb,this]
theorem Zm {α:Type} {cs ds:List α} {o:Nat} {x:α} (h:x∈splice cs o ds):x∈cs∨x∈ds:=by
 unfold splice at h;simp only [List.mem_append] at h;rcases h with (h|h)|h
 ·exact .inl (List.mem_of_mem_take h)
 ·exact .inr h
 ·exact .inl (List.mem_of_mem_drop h)
section
variable {c:Ctx} {w0 w:World} {J:JJ} {s:FSt} {a:Act} {β:Nat→Option Nat} {dst:Option Nat} {ty:TypeId} {pos:String} {after:Array Edge} {g:Option (Nat×Bool)}
theorem yx (w:World) (g k:Nat) (cs:Array Value) (h:k≠g):(w.setRow g cs).heap[k]? = w.heap[k]?:=by
 simp only [World.setRow,Array.getElem?_modify];rw [if_neg (fun e=>h e.symm)]
theorem yp (w:World) (g:Nat) (cs cur:Array Value) (E:TypeId) (h:w.heap[g]? = some (.cells cur E (0,0))):(w.setRow g cs).heap[g]? = some (.cells cs E (0,0)):=by
 simp [World.setRow,Array.getElem?_modify,h]
theorem zet (h:FR c.N w0 J s a w β) {T:Nat} (hk:(c.ty T).k≠.other) (x y:Operand) {id ver j o:Nat} (ex:s.ev x=.ptr id ver j o) (hl:(s.ob id).life=.own) (hv:(s.ob id).ver=ver) {f:FV} (ey:s.ev y=f)
  (hf:f.cells.all FV.one=true) (hfl:f.cells.length=(c.ty T).size) (hj:j<(s.ob id).es.length) (ho:o+(c.ty T).size≤(s.ob id).sz) :
  ∃ w',(execOp a.eval ⟨dst,.store T x y,ty,pos,after,g⟩).run c.P w=.ok .skip w'∧
   FR c.N w0 J (s.wr [(id,{ s.ob id with es:=(s.ob id).es.set j (splice ((s.ob id).es.getD j []) o f.cells) })]) a w' β:=by
 have hlive:(s.ob id).life≠.dead:=by rw [hl];decide
 have hrl:(s.ob id).life.row=true:=by rw [hl];rfl
 obtain ⟨_,b,hb,hvx⟩:=h.ev_ptr ex hlive hv;obtain ⟨cur,cap,hblk,hn,hm,hcs,hr,hrow⟩:=h.block hlive hrl hb;have hw:=((h.obj id hlive).rowR hrl).wide;have hone:=((h.obj id hlive).rowR hrl).one;have hrd:=h.ev_rd ey (Rd.nohand hf);obtain ⟨hc1,hc2⟩:=hrd.cells hf;generalize hy:a.eval y=v at hc1 hc2;generalize hes:(s.ob id).es=es at hj hn hr hrow hw hone ⊢;generalize hsz:(s.ob id).sz=sz at ho hcs hr hrow hw hvx ⊢;have hvl:v.cells.toList.length=(c.ty T).size:=by rw [hc1.1,hfl]
 have hle:j * sz+sz≤es.length * sz:=by
  have:(j+1) * sz≤es.length * sz:=Nat.mul_le_mul_right sz zb;rw [Nat.add_mul] at this;omega
 have hle2:es.length * sz≤cap * sz:=Nat.mul_le_mul_right sz hn;have hst:=run_storeCells_at c.P b (j * sz+o) (s.ob id).E v.cells.toList 0 cur w hblk zb hc2;simp only [Nat.add_zero] at hst;have hcl:cur.toList.length=cap * sz:=by simpa using hcs
 have hvl2:v.cells.toList.length=f.cells.length:=hc1.1;have htl:(cur.toList.take (es.length * sz)).length=es.length * sz:=by rw [List.length_take,hcl];omega
 obtain ⟨W,hW⟩:∃ W,W=w.setRow b (splice cur.toList (j * sz+o) v.cells.toList).toArray:=⟨_,rfl⟩
 have hWb:W.heap[b]? = some (.cells (splice cur.toList (j * sz+o) v.cells.toList).toArray (s.ob id).E (0,0)):=by rw [hW];exact yp w b _ cur _ hblk
 have hgrown:w.grownBy W (β id):=by
  subst hW;refine ⟨rfl,rfl,rfl,by simp [World.setRow],fun k hk hne=>yx w b k _ (fun e=>hne (by rw [e,hb]))⟩
 have hrow' : W.ownsRow w0.heap.size (s.ob id).E sz (.slice (some ⟨b,0,none⟩) es.length cap) es.length (splice (cur.toList.take (es.length * sz)) (j * sz+o) v.cells.toList):=by
  refine ⟨?_,.inr ⟨b,cap,_,rfl,((h.obj id hlive).lt hb).1,hWb,hn,hm,?_,?_⟩⟩
  ·rw [yt zb,htl]
  ·simp only [List.size_toArray];rw [yt zb,hcl]
  ·have key:∀ (L p:Nat) (cs ds:List Value),p+ds.length≤L→L≤cs.length→(splice cs p ds).take L=splice (cs.take L) p ds:=by
    intro L p cs ds h1 h2;unfold splice;rw [List.append_assoc,List.append_assoc,List.take_append,List.length_take,Nat.min_eq_left zb,List.take_append,List.take_take,List.take_take,Nat.min_eq_right zb,Nat.min_eq_left zb,List.take_of_length_le (by omega:ds.length≤L - p),List.drop_take];congr 3;omega
   exact key _ _ _ _ zb zb
 have hone' : ∀ f'∈(es.set j (splice (es.getD j []) o f.cells)).flatten,f'.one=true:=by
  intro f' hf';obtain ⟨e,he,hfe⟩:=List.mem_flatten.1 hf';rcases List.mem_or_eq_of_mem_set he with h'|h'
  ·exact hone f' (List.mem_flatten.2 ⟨e,h',hfe⟩)
  ·subst h';rcases Zm hfe with h'|h'
   ·rw [List.getD_eq_getElem?_getD,List.getElem?_eq_getElem hj] at h';exact hone f' (List.mem_flatten.2 ⟨_,List.getElem_mem hj,h'⟩)
   ·exact List.all_eq_true.1 hf f' h'
 refine ⟨W,?_,?_⟩
 ·have hs:=yi (c:=c) hk w;have hsz' : v.cells.size=(c.ty T).size:=by simpa using hvl
  have hst' : (storeCells ⟨b,j * sz+o,none⟩ v.cells.toList).run c.P w=.ok () W:=by rw [hW];exact hst
  simp [execOp,Instr.storeAt,storeVar,hvx,hy,Instr.sureAddr,hs,hsz',hst']
 ·refine h.write id (es:=es.set j (splice (es.getD j []) o f.cells)) (v:=.slice (some ⟨b,0,none⟩) es.length cap) (xs:=splice (cur.toList.take (es.length * sz)) (j * sz+o) v.cells.toList) hl hgrown ?_ hone' ?_ hb.symm ?_ ?_ ?_ (fun k=>?_) (fun k=>rfl)
  ·rw [hsz];exact zhF hw hj zb
  ·rw [hsz,List.length_set];exact hrow'
  ·rw [Vb es hw j o f.cells hj zb];exact hr.splice hc1 _
  ·rw [hes,List.length_set]
  ·intro b' cur1 cur2 hb' h1 h2;rw [hb] at hb';injection hb' with hb'
   subst hb';rw [hblk] at h1;injection h1 with h1
   injection h1 with h1 _ _
   subst h1;rw [hWb] at h2;injection h2 with h2
   injection h2 with h2 _ _
   rw [← h2];simp only [List.size_toArray];rw [yt zb,hcl,hcs]
  ·exact FSt.ob_set s id _ k
end
theorem YC.of_row {w:World} {base E sz n:Nat} {v:Value} {xs:List Value} {ob:zn} (h:w.ownsRow base E sz v n xs) (hn:ob.es.length=n) (hE:ob.E=E) (hs:ob.sz=sz) (hrl:ob.life.slic=true):YC w v.ownBlock ob v 0 n:=by
 rcases h.2 with ⟨rfl,rfl⟩|⟨g,cap,cur,rfl,_,hgg,h1,h2,h3,_⟩
 ·exact ⟨hrl,none,0,rfl,Nat.le_refl _,by omega,fun _=>⟨rfl,rfl⟩,fun b hb=>by simp [Value.ownBlock] at hb⟩
 ·refine ⟨hrl,some ⟨g,0,none⟩,cap,rfl,h1,by omega,fun hb=>by simp [Value.ownBlock] at hb,fun b hb=>?_⟩;obtain rfl:g=b:=by simpa [Value.ownBlock] using hb
  refine ⟨0,rfl,fun _=>by simp,fun cur' hc=>?_⟩;rw [hE,hgg] at hc;injection hc with hc
  injection hc with hc _ _
  rw [← hc,hs];simpa using h3
section
variable {c:Ctx} {w0 w:World} {J:JJ} {s:FSt} {a:Act} {β:Nat→Option Nat} {ty:TypeId} {pos:String} {after:Array Edge} {g:Option (Nat×Bool)}
theorem xI (w:World) (o:Obj):Below w.heap.size w (w.alloc o):=(Below.refl _ _).alloc (Nat.le_refl _) o
theorem FR.newRow (h:FR c.N w0 J s a w β) (d E sz:Nat) (es:List (List FV)) (cur:Array Value) (hw:∀ e∈es,e.length=sz) (ho:∀ f∈es.flatten,f.one=true) (hr:RdL w (Imm J w β s) cur.toList es.flatten) (hm:es.length≤maxLen) :
  FR c.N w0 J (s.set d ⟨(s.ob d).ver+1,.own,E,sz,es⟩) a (w.alloc (.cells cur E)) (Yg β d (some w.heap.size))∧
   (w.alloc (.cells cur E)).ownsRow w0.heap.size E sz (.slice (some ⟨w.heap.size,0,none⟩) es.length es.length) es.length cur.toList:=by
 have hlen:cur.size=es.length * sz:=by have:=hr.1;rw [yR hw] at this;simpa using this
 have hrow:(w.alloc (.cells cur E)).ownsRow w0.heap.size E sz (.slice (some ⟨w.heap.size,0,none⟩) es.length es.length) es.length cur.toList:=
  ⟨by simpa using hlen,.inr ⟨w.heap.size,es.length,cur,rfl,h.bel.size,heap_alloc_new w _,Nat.le_refl _,hm,hlen,by rw [List.take_of_length_le (by simp [hlen])]⟩⟩
 refine ⟨h.make none d (v:=.slice (some ⟨w.heap.size,0,none⟩) es.length es.length) (fun k e=>by cases e) (World.grownBy_alloc w _ _) hw ho hrow hr (.inr (.inr ⟨_,rfl,Nat.le_refl _⟩)) (fun k=>?_) (fun k=>rfl),hrow⟩;rw [FSt.ob_set];split
 ·rfl
 ·simp
theorem zW (β:Nat→Option Nat) (j:Nat) (x:Option Nat):Yg β j x j=x:=by simp [Yg]
theorem Vi (h:FR c.N w0 J s a w β) {o:Oper} (d E:Nat) (f:FV) (cur:Array Value) (hf:f.cells.all FV.one=true) (hr:RdL w (Imm J w β s) cur.toList f.cells)
  (hrun:(execOp a.eval o).run c.P w=.ok (.value (.pointer (some ⟨w.heap.size,0,none⟩))) (w.alloc (.cells cur E))) :
  yL c w0 J s a o w (.ptr d ((s.ob d).ver+1) 0 0) [(d,⟨(s.ob d).ver+1,.own,E,f.cells.length,[f.cells]⟩)]:=by
 obtain ⟨h1,_⟩:=h.newRow d E f.cells.length [f.cells] cur zc (by simpa using hf) (by simpa using hr) (by simp [maxLen]);refine ⟨_,_,_,hrun,h1,fun _ _=>⟨by rw [show (s.wr [(d,(⟨(s.ob d).ver+1,.own,E,f.cells.length,[f.cells]⟩:zn))]).ob d=⟨(s.ob d).ver+1,.own,E,f.cells.length,[f.cells]⟩ from (FSt.ob_set s d _ d).trans (if_pos rfl)];rfl,w.heap.size,zW _ _ _,by simp⟩,fun id ver e=>?_⟩;simp only [FV.hands,List.mem_singleton,Prod.mk.injEq] at e;obtain ⟨e1,e2⟩:=e;replace e1:=e1.symm;replace e2:=e2.symm;subst e1;subst e2;show _≤(FSt.ob (FSt.set s d _) d).ver;rw [FSt.ob_set,if_pos rfl];exact Nat.le_refl _
theorem zel (h:FR c.N w0 J s a w β) (d:Nat) {T:Nat} (hk:(c.ty T).k≠.other) (hz:(c.ty T).zero.all FV.one=true) :
  yL c w0 J s a ⟨some d,.alloc T,ty,pos,after,g⟩ w (.ptr d ((s.ob d).ver+1) 0 0) [(d,⟨(s.ob d).ver+1,.own,T,(c.ty T).zero.length,[(c.ty T).zero]⟩)]:=by
 obtain ⟨z,h1,h2,h3⟩:=yw hk w;refine Vi h d T (.agg (c.ty T).zero) z.cells hz (RdL.zeros h2) ?_;simp [execOp,Instr.alloc,h1,newVar,newRow]
theorem zdD (h:FR c.N w0 J s a w β) (d:Nat) {T:Nat} (x:Operand) {f:FV} (ex:s.ev x=f) (hf:f.cells.all FV.one=true) :
  yL c w0 J s a ⟨some d,.box T x,ty,pos,after,g⟩ w (.ptr d ((s.ob d).ver+1) 0 0) [(d,⟨(s.ob d).ver+1,.own,T,f.cells.length,[f.cells]⟩)]:=by
 obtain ⟨h1,h2⟩:=(h.ev_rd ex (Rd.nohand hf)).cells hf;refine Vi h d T f (a.eval x).cells hf h1 ?_;simp [execOp,Instr.box,newVar,newRow]
def xx (place:Nat→Option (Nat×Nat)):List FV→List (Nat×FV)→Option (List FV)
 | cs, [] => some cs
 | cs, (i, f) :: rest =>
  match place i with
  | none => none
  | some (off, size) => if f.cells.all FV.one=true ∧ f.cells.length=size ∧ off+size ≤ cs.length then xx place (splice cs off f.cells) rest else none
theorem zbs:∀ (vs:List Value) (k off:Nat) (A:Array Value),off+k+vs.length≤A.size→(List.foldl (fun (cs:Array Value) (p:Value×Nat)=>cs.setIfInBounds (off+p.2) p.1) A (vs.zipIdx k)).toList=splice A.toList (off+k) vs
 | [], k, off, A, _ => by simp [splice]
 | v :: vs, k, off, A, h => by
  have h' : off+k<A.size:=by simp at h;omega
  rw [List.zipIdx_cons,List.foldl_cons,zbs vs (k+1) off _ (by simp at h ⊢;omega)];unfold splice;simp only [Array.toList_setIfInBounds,List.length_cons];rw [show off+(k+1)=off+k+1 by omega,List.take_succ_eq_append_getElem (by simpa using h'),List.take_set,List.getElem_set_self,List.set_eq_of_length_le zI,List.drop_set_of_lt zb];simp [Nat.add_comm,Nat.add_left_comm]
theorem zdB {w:World} {I:Nat→Prop} (place:Nat→Option (Nat×Nat)):∀ (ps:List (Nat×FV)) (vs:List (Nat×Value)) (A:Array Value) (cs cs' : List FV),RdL w I A.toList cs→vs.length=ps.length→
  (∀ (j:Nat) v p,vs[j]? = some v→ps[j]? = some p→v.1=p.1∧Rd w I v.2 p.2)→xx place cs ps=some cs'→∃ A',Instr.fill place A vs=some A'∧RdL w I A'.toList cs'
 | [], [], A, cs, cs', hA, _, _, h => by
  simp only [xx,Option.some.injEq] at h;subst h;exact ⟨A,rfl,hA⟩
 | [], _ :: _, _, _, _, _, hl, _, _ => by simp at hl
 | _ :: _, [], _, _, _, _, hl, _, _ => by simp at hl
 | (i,f)::ps,(i',v)::vs,A,cs,cs',hA,hl,hp,h=>by
  obtain ⟨e1,e2⟩:=hp 0 _ _ rfl rfl;dsimp only at e1 e2;subst e1;unfold xx at h;cases hpl:place i' with
  | none => rw [hpl] at h; cases h
  | some q=>
   obtain ⟨off,size⟩:=q;rw [hpl] at h;dsimp only at h;split at h
   ·rename_i hc;obtain ⟨c1,c2,c3⟩:=hc;obtain ⟨k1,k2⟩:=e2.cells c1;have hvs:v.cells.size=size:=by have:=k1.1;rw [c2] at this;simpa using this
    have hAs:A.size=cs.length:=by have:=hA.1;simpa using this
    have hz:A.size=A.toList.length:=by simp
    have hfold:(v.cells.zipIdx.foldl (fun cs (c,j)=>cs.setIfInBounds (off+j) c) A).toList=splice A.toList off v.cells.toList:=by
     have:=zbs v.cells.toList 0 off A zI;rw [← Array.foldl_toList];simpa using this
    obtain ⟨A',r1,r2⟩:=zdB place ps vs _ _ _ (by rw [hfold];exact hA.splice k1 off) (by simpa using hl) (fun j v p hv hq=>hp (j+1) v p hv hq) h;refine ⟨A',?_,r2⟩;unfold Instr.fill;simp only [hpl];rw [if_neg (by simp [hvs];omega)];exact r1
   ·cases h
def FSt.parts (s:FSt) (ps:Array (Nat×Operand)):List (Nat×FV):=ps.toList.map fun p=>(p.1,s.ev p.2)
theorem FR.parts (h:FR c.N w0 J s a w β) (ps:Array (Nat×Operand)) {place:Nat→Option (Nat×Nat)} {cs cs' : List FV} {A:Array Value} (hA:RdL w (Imm J w β s) A.toList cs) (hf:xx place cs (s.parts ps)=some cs') :
  ∃ A',Instr.fill place A (ps.map fun (i,x)=>(i,a.eval x)).toList=some A'∧RdL w (Imm J w β s) A'.toList cs':=by
 have hone:∀ (l:List (Nat×FV)) (cs cs' : List FV),xx place cs l=some cs'→∀ p∈l,p.2.hand=none:=by
  intro l
  induction l with
  | nil => intro _ _ _ p hp; simp at hp
  | cons q l ih=>
   intro cs cs' hq p hp;obtain ⟨i,f⟩:=q;unfold xx at hq;cases hpl:place i with
   | none => rw [hpl] at hq; cases hq
   | some z=>
    rw [hpl] at hq;dsimp only at hq;split at hq
    ·rename_i hc;rcases List.mem_cons.1 hp with e|e
     ·subst e;exact Rd.nohand hc.1
     ·exact ih _ _ hq p e
    ·cases hq
 refine zdB place (s.parts ps) _ A cs cs' hA (by simp [FSt.parts]) (fun j v p hv hp=>?_) hf;have hpm:=List.mem_of_getElem? hp;simp only [FSt.parts,List.getElem?_map,Option.map_eq_some_iff] at hp;obtain ⟨q,hq,rfl⟩:=hp;have hv' : (ps.toList.map fun p=>(p.1,a.eval p.2))[j]? = some v:=by simpa using hv
 simp only [List.getElem?_map,hq,Option.map_some,Option.some.injEq] at hv';subst hv';exact ⟨rfl,h.ev_rd rfl (hone _ _ _ hf _ hpm)⟩
theorem zen (h:FR c.N w0 J s a w β) {dst:Option Nat} {T:Nat} {fs:List (Nat×Nat)} (hT:(c.ty T).k=.strct fs) (hfs:∀ p∈fs,(c.ty p.2).k≠.other) (ps:Array (Nat×Operand)) {cs:List FV}
  (hf:xx (fun i=>(fs[i]?).map fun p=>(p.1,(c.ty p.2).size)) (c.ty T).zero (s.parts ps)=some cs):yL c w0 J s a ⟨dst,.build T ps,ty,pos,after,g⟩ w (.agg cs) []:=by
 obtain ⟨d,i,z,ht⟩:=c.get hT zc;have hd:=ht.k;rw [hT] at hd;obtain ⟨gs,rfl,hgs,_⟩:=XK hd;obtain ⟨A',h1,h2⟩:=h.parts ps (A:=z.cells) (RdL.zeros ht.zr) hf;have hp:gs.toList.mapM (fun f=>(c.P.info? f.type).map fun i=>(f.offset,i.size))=some (gs.toList.map fun f=>(f.offset,(c.ty f.type).size)):=by
  have key:∀ (l:List Field),(∀ f∈l,(c.ty f.type).k≠.other)→l.mapM (fun f=>(c.P.info? f.type).map fun i=>(f.offset,i.size))=some (l.map fun f=>(f.offset,(c.ty f.type).size)):=by
   intro l
   induction l with
   | nil => intro _; rfl
   | cons f l ih =>
    intro hl;obtain ⟨d',i',z',ht'⟩:=c.get rfl (hl f zc);simp only [List.mapM_cons,ht'.info,Option.map_some,Option.bind_eq_bind,Option.bind_some,ih (fun f hf=>hl f (by simp [hf])),Option.pure_def,ht'.size,List.map_cons]
  refine key _ (fun f hf=>hfs (f.offset,f.type) ?_);rw [hgs];exact List.mem_map.2 ⟨f,hf,rfl⟩
 have hb:c.P.built T (ps.map fun (i,x)=>(i,a.eval x)).toList=some A':=by
  unfold Program.built;simp only [ht.info,ht.u,ht.zo,hp];rw [← h1];congr 1;funext i;rw [hgs];simp [Function.comp_def]
 refine .rd h (v:=.agg A') (by simp only [execOp,Sem.run_bind,run_build w T _ A' hb,Result.andThen_ok,Sem.run_pure]) ?_ rfl;have:=Rd.agg (w:=w) (I:=Imm J w β s) A'.toList cs h2.1 h2.2;simpa using this
theorem zcP (h:FR c.N w0 J s a w β) {dst:Option Nat} {T n e:Nat} (hT:(c.ty T).k=.arr n e) (he:(c.ty e).k≠.other) (ps:Array (Nat×Operand)) {cs:List FV}
  (hf:xx (fun i=>some (i * (c.ty e).size,(c.ty e).size)) (c.ty T).zero (s.parts ps)=some cs):yL c w0 J s a ⟨dst,.build T ps,ty,pos,after,g⟩ w (.agg cs) []:=by
 obtain ⟨d,i,z,ht⟩:=c.get hT zc;have hd:=ht.k;rw [hT] at hd;obtain rfl:=zaA hd;obtain ⟨A',h1,h2⟩:=h.parts ps (A:=z.cells) (RdL.zeros ht.zr) hf;obtain ⟨d',i',z',ht'⟩:=c.get rfl he;have hb:c.P.built T (ps.map fun (i,x)=>(i,a.eval x)).toList=some A':=by
  unfold Program.built;simp only [ht.info,ht.u,ht.zo,ht'.info,ht'.size];exact h1
 refine .rd h (v:=.agg A') (by simp only [execOp,Sem.run_bind,run_build w T _ A' hb,Result.andThen_ok,Sem.run_pure]) ?_ rfl;have:=Rd.agg (w:=w) (I:=Imm J w β s) A'.toList cs h2.1 h2.2;simpa using this
theorem RdL.undefs {w:World} {I:Nat→Prop} (us:List Value):RdL w I us (List.replicate us.length .undef):=by
 refine ⟨by simp,fun j u f hu hf=>?_⟩;rw [List.getElem?_replicate] at hf;split at hf
 ·injection hf with hf;subst hf;exact .undef u
 ·cases hf
theorem ZB (h:FR c.N w0 J s a w β) {o:Oper} (d E sz:Nat) (es:List (List FV)) (cur:Array Value) (hw:∀ e∈es,e.length=sz) (ho:∀ f∈es.flatten,f.one=true) (hr:RdL w (Imm J w β s) cur.toList es.flatten) (hm:es.length≤maxLen)
  (hrun:(execOp a.eval o).run c.P w=.ok (.value (.slice (some ⟨w.heap.size,0,none⟩) es.length es.length)) (w.alloc (.cells cur E))) :
  yL c w0 J s a o w (.own d ((s.ob d).ver+1) 0 es.length) [(d,⟨(s.ob d).ver+1,.own,E,sz,es⟩)]:=by
 obtain ⟨h1,h2⟩:=h.newRow d E sz es cur hw ho hr hm;refine ⟨_,_,_,hrun,h1,fun _ _=>?_,fun id ver e=>?_⟩
 ·show YC _ (Yg β d (some w.heap.size) d) (FSt.ob (FSt.set s d _) d) _ _ _;rw [zW,FSt.ob_set,if_pos rfl];exact YC.of_row h2 rfl rfl rfl rfl
 ·simp only [FV.hands,List.mem_singleton,Prod.mk.injEq] at e;obtain ⟨e1,e2⟩:=e;replace e1:=e1.symm;replace e2:=e2.symm;subst e1;subst e2;show _≤(FSt.ob (FSt.set s d _) d).ver;rw [FSt.ob_set,if_pos rfl];exact Nat.le_refl _
theorem Vd (h:FR c.N w0 J s a w β) (d:Nat) {T e n:Nat} (hT:(c.ty T).k=.slice e) (he:(c.ty e).k≠.other) (ps:Array (Nat×Operand)) (es:List (List FV)) (hn:es.length=n) (hw:∀ x∈es,x.length=(c.ty e).size) (ho:∀ f∈es.flatten,f.one=true)
  (hcap:n * (c.ty e).size≤16777216) (hnm:n≤16777216)
  (hf:xx (fun i=>some (i * (c.ty e).size,(c.ty e).size)) (List.replicate (n * (c.ty e).size) .undef) (s.parts ps)=some es.flatten) :
  yL c w0 J s a ⟨some d,.buildSlice T n ps,ty,pos,after,g⟩ w (.own d ((s.ob d).ver+1) 0 n) [(d,⟨(s.ob d).ver+1,.own,e,(c.ty e).size,es⟩)]:=by
 obtain ⟨dd,i,z,ht⟩:=c.get hT zc;have hd:=ht.k;rw [hT] at hd;obtain rfl:=yo hd;have hs:=yi (c:=c) he w;obtain ⟨zz,hz,_,_⟩:=yw he w;obtain ⟨A0,hA0⟩:∃ A0:Array Value,(if n * (c.ty e).size=0 then (Array.range (n * (c.ty e).size)).map (fun x=>(#[]:Array Value)[x % (#[]:Array Value).size]!) else (Array.range (n * (c.ty e).size)).map (fun x=>zz.cells[x % zz.cells.size]!))=A0:=⟨_,rfl⟩
 have hsz:A0.size=n * (c.ty e).size:=by rw [← hA0];split <;> simp
 have hu:=RdL.undefs (w:=w) (I:=Imm J w β s) A0.toList;rw [Array.length_toList,hsz] at hu;obtain ⟨A',h1,h2⟩:=h.parts ps hu hf;subst hn;refine ZB h d e (c.ty e).size es A' hw ho h2 (by unfold maxLen;omega) ?_;have hcap' : ¬ (16777216<es.length * (c.ty e).size):=by omega
 by_cases h0:es.length * (c.ty e).size=0
 ·rw [if_pos h0] at hA0;simp [execOp,Instr.buildSlice,run_underlying ht.u,hs,h0,newRow] at hA0 h1 ⊢;rw [hA0,h1];simp
 ·rw [if_neg h0] at hA0;simp [execOp,Instr.buildSlice,run_underlying ht.u,hs,hcap',h0,hz,newRow,hA0] at h1 ⊢;rw [h1];simp
theorem Ur (h:FR c.N w0 J s a w β) {o:Oper} (E sz:Nat) (es:List (List FV)) (cur:Array Value) (hw:∀ e∈es,e.length=sz) (ho:∀ f∈es.flatten,f.one=true) (hr:RdL w (Imm J w β s) cur.toList es.flatten)
  (hrun:(execOp a.eval o).run c.P w=.ok (.value (.slice (some ⟨w.heap.size,0,none⟩) es.length es.length)) (w.alloc (.cells cur E))):yL c w0 J s a o w (.list sz es) []:=by
 have hb:Below w.heap.size w (w.alloc (.cells cur E)):=(Below.refl _ _).alloc (Nat.le_refl _) _;have hG:=h.grow hb;refine ⟨_,_,β,hrun,hG,?_,fun _ _ e=>(FV.no_hands rfl e).elim⟩;refine VR.of_rd (Rd.list (some ⟨w.heap.size,0,none⟩) es.length es.length sz es cur.toList rfl (Nat.le_refl _) hw ho (fun _=>⟨w.heap.size,0,rfl,⟨?_,h.fresh _ h.bel.size (.inl (Nat.le_refl _)),fun id hl e=>?_⟩,fun j u hu=>?_⟩) hr.1 (fun j u f hu hf=>(hr.2 j u f hu hf).mono fun b hbb=>hbb.grow hb)) rfl
 ·show w.heap.size<(w.heap.push _).size;simp
 ·have:=((h.obj id (zX.mine_ne hl)).lt e).2;omega
 ·have hblk:(w.alloc (.cells cur E)).heap[w.heap.size]? = some (.cells cur E (0,0)):=by show (w.heap.push _)[w.heap.size]? = _;simp
  rw [cell_of_row _ w.heap.size _ cur E (0,0) hblk];simpa using hu
theorem Wv (h:FR c.N w0 J s a w β) (d:Nat) {T e n:Nat} (hT:(c.ty T).k=.slice e) (he:(c.ty e).k≠.other) (ps:Array (Nat×Operand)) (es:List (List FV)) (hn:es.length=n) (hw:∀ x∈es,x.length=(c.ty e).size) (ho:∀ f∈es.flatten,f.one=true)
  (hcap:n * (c.ty e).size≤16777216) (hnm:n≤16777216)
  (hf:xx (fun i=>some (i * (c.ty e).size,(c.ty e).size)) (List.replicate (n * (c.ty e).size) .undef) (s.parts ps)=some es.flatten) :
  yL c w0 J s a ⟨some d,.buildSlice T n ps,ty,pos,after,g⟩ w (.list (c.ty e).size es) []:=by
 obtain ⟨dd,i,z,ht⟩:=c.get hT zc;have hd:=ht.k;rw [hT] at hd;obtain rfl:=yo hd;have hs:=yi (c:=c) he w;obtain ⟨zz,hz,_,_⟩:=yw he w;obtain ⟨A0,hA0⟩:∃ A0:Array Value,(if n * (c.ty e).size=0 then (Array.range (n * (c.ty e).size)).map (fun x=>(#[]:Array Value)[x % (#[]:Array Value).size]!) else (Array.range (n * (c.ty e).size)).map (fun x=>zz.cells[x % zz.cells.size]!))=A0:=⟨_,rfl⟩
 have hsz:A0.size=n * (c.ty e).size:=by rw [← hA0];split <;> simp
 have hu:=RdL.undefs (w:=w) (I:=Imm J w β s) A0.toList;rw [Array.length_toList,hsz] at hu;obtain ⟨A',h1,h2⟩:=h.parts ps hu hf;subst hn;refine Ur h e (c.ty e).size es A' hw ho h2 ?_;have hcap' : ¬ (16777216<es.length * (c.ty e).size):=by omega
 by_cases h0:es.length * (c.ty e).size=0
 ·rw [if_pos h0] at hA0;simp [execOp,Instr.buildSlice,run_underlying ht.u,hs,h0,newRow] at hA0 h1 ⊢;rw [hA0,h1];simp
 ·rw [if_neg h0] at hA0;simp [execOp,Instr.buildSlice,run_underlying ht.u,hs,hcap',h0,hz,newRow,hA0] at h1 ⊢;rw [h1];simp
theorem xL {α:Type} {sz:Nat}:∀ (es:List (List α)),(∀ e∈es,e.length=sz)→∀ k,(es.take k).flatten=es.flatten.take (k * sz)
 | [], _, k => by simp
 | e :: es, he, 0 => by simp
 | e :: es, he, k+1 => by
  have h1:=he e zc;rw [List.take_succ_cons,List.flatten_cons,List.flatten_cons,xL es (fun x hx=>he x (by simp [hx])) k,Nat.add_mul,Nat.one_mul,Nat.add_comm,← h1,List.take_length_add_append]
theorem xj {α:Type} {sz:Nat}:∀ (es:List (List α)),(∀ e∈es,e.length=sz)→∀ k,(es.drop k).flatten=es.flatten.drop (k * sz)
 | [], _, k => by simp
 | e :: es, he, 0 => by simp
 | e :: es, he, k+1 => by
  have h1:=he e zc;rw [List.drop_succ_cons,List.flatten_cons,xj es (fun x hx=>he x (by simp [hx])) k,Nat.add_mul,Nat.one_mul,Nat.add_comm,← h1,List.drop_length_add_append]
theorem Up (h:FR c.N w0 J s a w β) (d:Nat) {T e n:Nat} (hT:(c.ty T).k=.slice e) (he:(c.ty e).k≠.other) (x y:Operand) {k1 k2:IntKind} (ex:s.ev x=.int k1 n) (ey:s.ev y=.int k2 n) (ho:(c.ty e).zero.all FV.one=true)
  (hb:(c.ty e).bytes * n≤281474976710656) (hn:n≤281474976710656) :
  yL c w0 J s a ⟨some d,.makeSlice T x y,ty,pos,after,g⟩ w (.own d ((s.ob d).ver+1) 0 n) [(d,⟨(s.ob d).ver+1,.own,e,(c.ty e).size,List.replicate n (c.ty e).zero⟩)]:=by
 obtain ⟨dd,i,z,ht⟩:=c.get hT zc;have hd:=ht.k;rw [hT] at hd;obtain rfl:=yo hd;obtain ⟨d',i',z',ht'⟩:=c.get rfl he;have hbi:(i'.bytes:Int) * (n:Int)≤281474976710656:=by
  have:((i'.bytes * n:Nat):Int)≤281474976710656:=by rw [ht'.bytes];omega
  rwa [Int.natCast_mul] at this
 have hr:=run_make (P:=c.P) w T e i' z' ht.u ht'.info ht'.zo k1 k2 n n zb (Int.le_refl _) hbi zb;simp only [Int.toNat_natCast] at hr;have hzl:=(RdL.zeros (w:=w) (I:=Imm J w β s) ht'.zr)
 have hzn:z'.cells.size=(c.ty e).size:=by have:=hzl.1;rw [ht'.zl] at this;simpa using this
 have hlen:(List.replicate n (c.ty e).zero).length=n:=by simp
 have hg:=ZB h (o:=⟨some d,.makeSlice T x y,ty,pos,after,g⟩) d e (c.ty e).size (List.replicate n (c.ty e).zero) (madeCells z'.cells (n * i'.size)) (fun x hx=>by rw [List.eq_of_mem_replicate hx,ht'.zl]) (fun f hf=>by
   obtain ⟨q,hq,hfq⟩:=List.mem_flatten.1 hf;rw [List.eq_of_mem_replicate hq] at hfq;exact List.all_eq_true.1 ho f hfq) ⟨?_,?_⟩ (by rw [hlen];unfold maxLen;omega) (by
    rw [hlen];simp only [execOp,h.ev_int ex,h.ev_int ey,Sem.run_bind,hr,Result.andThen_ok,Sem.run_pure])
 ·rwa [hlen] at hg
 ·rw [yR (sz:=(c.ty e).size) (fun x hx=>by rw [List.eq_of_mem_replicate hx,ht'.zl]),hlen];simp [madeCells,ht'.size]
 ·intro j u f hu hf;rw [ht'.size] at hu;have hj:j<n * (c.ty e).size:=by
   have:=(List.getElem?_eq_some_iff.1 hu).1;simpa [madeCells] using this
  have hs0:0<(c.ty e).size:=by
   rcases Nat.eq_zero_or_pos (c.ty e).size with h0|h0
   ·rw [h0] at hj;simp at hj
   ·exact h0
  have hmod:=Nat.mod_lt j hs0;have hu' : z'.cells.toList[j % (c.ty e).size]? = some u:=by
   have e1:(madeCells z'.cells (n * (c.ty e).size)).toList[j]? = some (z'.cells[j % z'.cells.size]!):=by
    simp [madeCells,hj]
   rw [e1] at hu;injection hu with hu
   rw [hzn] at hu;rw [← hu];have hlt:j % (c.ty e).size<z'.cells.size:=by omega
   simp [hlt]
  have hf' : (c.ty e).zero[j % (c.ty e).size]? = some f:=by
   have key:∀ (m q r:Nat),r<(c.ty e).size→q<m→(List.replicate m (c.ty e).zero).flatten[q * (c.ty e).size+r]? = (c.ty e).zero[r]?:=by
    intro m q r hr hq;have hw:∀ x∈List.replicate m (c.ty e).zero,x.length=(c.ty e).size:=fun x hx=>by rw [List.eq_of_mem_replicate hx,ht'.zl]
    have:=ZU _ hw q r (by simpa using hq) zb;have h2:((List.replicate m (c.ty e).zero).flatten.drop (q * (c.ty e).size+r))[0]? = (c.ty e).zero[r]?:=by
     rw [this,List.getD_eq_getElem?_getD,List.getElem?_replicate,if_pos hq,Option.getD_some,List.getElem?_append_left (by rw [List.length_drop,ht'.zl];omega),List.getElem?_drop,Nat.add_zero]
    rwa [List.getElem?_drop,Nat.add_zero] at h2
   have hdm:=Nat.div_add_mod j (c.ty e).size;rw [Nat.mul_comm] at hdm;rw [← key n (j / (c.ty e).size) (j % (c.ty e).size) hmod (by rw [Nat.div_lt_iff_lt_mul hs0];exact hj),hdm];exact hf
  exact hzl.2 _ u f hu' hf'
def zjs (a:Act):Option Operand→Nat→Prop
 | none, l => l=0
 | some y, l => ∃ k, a.eval y=.int k (l:Nat)
def zjr (a:Act):Option Operand→Nat→Nat→Prop
 | none, m, u => u=m
 | some y, _, u => ∃ k, a.eval y=.int k (u:Nat)
theorem VW {dst:Option Nat} {T e:Nat} (hT:(c.ty T).k=.slice e) (he:(c.ty e).k≠.other) (x:Operand) (lo hi:Option Operand) {A:Option Addr} {m cc l u:Nat} (ex:a.eval x=.slice A m cc)
  (hlo:zjs a lo l) (hhi:zjr a hi m u) (h1:l≤u) (h2:u≤cc) :
  (execOp a.eval ⟨dst,.slice T x lo hi none,ty,pos,after,g⟩).run c.P w=.ok (.value (.slice (if cc=l then A else A.map (·.add (l * (c.ty e).size))) (u - l) (cc - l))) w:=by
 obtain ⟨dd,i,z,ht⟩:=c.get hT zc;have hd:=ht.k;rw [hT] at hd;obtain rfl:=yo hd;have hs:=yi (c:=c) he w;cases lo with
 | none=>
  change l=0 at hlo;subst hlo;cases hi with
  | none =>
   change u=m at hhi;subst hhi;simp [execOp,Instr.sliceAt,Instr.slice,Instr.sliceBounds,run_underlying ht.u,ex,hs]
  | some y =>
   obtain ⟨k,hk⟩:=hhi;simp [execOp,Instr.sliceAt,Instr.slice,Instr.sliceBounds,Instr.sliceBound,asIntOf,run_underlying ht.u,ex,hs,hk,h2]
 | some z=>
  obtain ⟨k',hk'⟩:=hlo;cases hi with
  | none =>
   change u=m at hhi;subst hhi;simp [execOp,Instr.sliceAt,Instr.slice,Instr.sliceBounds,Instr.sliceBound,asIntOf,run_underlying ht.u,ex,hs,hk',h1]
  | some y =>
   obtain ⟨k,hk⟩:=hhi;simp [execOp,Instr.sliceAt,Instr.slice,Instr.sliceBounds,Instr.sliceBound,asIntOf,run_underlying ht.u,ex,hs,hk,hk',h1,h2]
end
section
variable {c:Ctx} {w0 w:World} {J:JJ} {s:FSt} {a:Act} {β:Nat→Option Nat} {dst:Option Nat} {ty:TypeId} {pos:String} {after:Array Edge} {g:Option (Nat×Bool)}
def FSt.lo (s:FSt):Option Operand→Nat→Prop
 | none, l => l=0
 | some y, l => ∃ k, s.ev y=.int k (l:Nat)
def FSt.hi (s:FSt):Option Operand→Nat→Nat→Prop
 | none, m, u => u=m
 | some y, _, u => ∃ k, s.ev y=.int k (u:Nat)
theorem FR.lo (h:FR c.N w0 J s a w β) {lo:Option Operand} {l:Nat} (hl:s.lo lo l):zjs a lo l:=by
 cases lo with
 | none => exact hl
 | some y => obtain ⟨k, hk⟩ := hl; exact ⟨k, h.ev_int hk⟩
theorem FR.hi (h:FR c.N w0 J s a w β) {hi:Option Operand} {m u:Nat} (hl:s.hi hi m u):zjr a hi m u:=by
 cases hi with
 | none => exact hl
 | some y => obtain ⟨k, hk⟩ := hl; exact ⟨k, h.ev_int hk⟩
theorem Ut (h:FR c.N w0 J s a w β) {T e:Nat} (hT:(c.ty T).k=.slice e) (he:(c.ty e).k≠.other) (x:Operand) (lo hi:Option Operand) {id ver o m l u:Nat} (ex:s.ev x=.own id ver o m) (hl:s.live id ver) (hsz:(c.ty e).size=(s.ob id).sz)
  (hlo:s.lo lo l) (hhi:s.hi hi m u) (h1:l≤u) (h2:u≤m):yL c w0 J s a ⟨dst,.slice T x lo hi none,ty,pos,after,g⟩ w (.own id ver (o+l) (u - l)) []:=by
 have hrl:=(h.ev_own ex hl.1 hl.2).row;obtain ⟨A,cc,e1,e2,e3,e4,e5⟩:=(h.ev_own ex hl.1 hl.2).ex;have hr:=VW (c:=c) (w:=w) (dst:=dst) (ty:=ty) (pos:=pos) (after:=after) (g:=g) hT he x lo hi e1 (h.lo hlo) (h.hi hhi) h1 zb;refine .pure h hr (fun _ _=>⟨hrl,_,_,rfl,by omega,by omega,fun hb=>?_,fun b hb=>?_⟩) (fun id' ver' e=>h.evers x (by rw [ex];exact e))
 ·obtain ⟨rfl,rfl⟩:=e4 hb;obtain rfl:l=0:=by omega
  simp
 ·obtain ⟨o',rfl,k2,k3⟩:=e5 b hb;by_cases hcl:cc=l
  ·rw [if_pos hcl];refine ⟨o',rfl,fun hor=>?_,fun cur hc=>?_⟩
   ·rcases hor with hor|hor
    ·omega
    ·have:o=0:=by omega
     have hl0:l=0:=by omega
     rw [k2 (.inr this),this,hl0]
   ·rw [k3 cur hc];congr 1;omega
  ·rw [if_neg hcl];have:=k2 (.inl zb);subst this;refine ⟨(o+l) * (s.ob id).sz,by rw [hsz];simp [yM,Nat.add_mul],fun _=>rfl,fun cur hc=>?_⟩;rw [k3 cur hc];congr 1;omega
theorem Vj (h:FR c.N w0 J s a w β) {T e:Nat} (hT:(c.ty T).k=.slice e) (he:(c.ty e).k≠.other) (x:Operand) (lo hi:Option Operand) {sz l u:Nat} {es:List (List FV)} (ex:s.ev x=.list sz es) (hsz:(c.ty e).size=sz)
  (hlo:s.lo lo l) (hhi:s.hi hi es.length u) (h1:l≤u) (h2:u≤es.length):yL c w0 J s a ⟨dst,.slice T x lo hi none,ty,pos,after,g⟩ w (.list sz ((es.drop l).take (u - l))) []:=by
 have hr:=h.ev_rd ex rfl;generalize hx:a.eval x=v at hr;cases hr with
 | list A m cc sz es us hn hc hw ho hA hl hrr=>
  subst hn;have hrun:=VW (c:=c) (w:=w) (dst:=dst) (ty:=ty) (pos:=pos) (after:=after) (g:=g) hT he x lo hi hx (h.lo hlo) (h.hi hhi) h1 zb;have hwd:∀ e∈es.drop l,e.length=sz:=fun e he=>hw e (List.mem_of_mem_drop he);have hfl:((es.drop l).take (u - l)).flatten=(es.flatten.drop (l * sz)).take ((u - l) * sz):=by rw [xL _ hwd,xj _ hw]
  have hR:RdL w (Imm J w β s) ((us.drop (l * sz)).take ((u - l) * sz)) ((es.drop l).take (u - l)).flatten:=by
   rw [hfl];exact (RdL.drop ⟨hl,hrr⟩ _).take _
  refine .rd h hrun (.list _ _ _ sz _ ((us.drop (l * sz)).take ((u - l) * sz)) zI zb (fun e he=>hwd e (List.mem_of_mem_take he)) (fun f hf=>?_) (fun h0=>?_) hR.1 hR.2) rfl
  ·rw [hfl] at hf;exact ho f (List.mem_of_mem_drop (List.mem_of_mem_take hf))
  ·obtain ⟨b,off,rfl,hI,hcell⟩:=hA zb;rw [if_neg zb];refine ⟨b,off+l * sz,by rw [hsz];simp [yM],hI,fun j u' hu=>?_⟩;rw [List.getElem?_take] at hu;split at hu
   ·rw [List.getElem?_drop] at hu;have:=hcell _ u' hu;rwa [show off+(l * sz+j)=off+l * sz+j by omega] at this
   ·cases hu
theorem Us (h:FR c.N w0 J s a w β) {T e:Nat} (hT:(c.ty T).k=.slice e) (he:(c.ty e).k≠.other) (x:Operand) (lo hi:Option Operand) (ex:s.ev x=.nil)
  (hlo:s.lo lo 0) (hhi:s.hi hi 0 0):yL c w0 J s a ⟨dst,.slice T x lo hi none,ty,pos,after,g⟩ w .nil []:=by
 have hrun:=VW (c:=c) (w:=w) (dst:=dst) (ty:=ty) (pos:=pos) (after:=after) (g:=g) hT he x lo hi (h.ev_nil ex) (h.lo hlo) (h.hi hhi) (Nat.le_refl _) (Nat.le_refl _);exact .rd h hrun (by simpa using Rd.nil) rfl
theorem zbx (h:FR c.N w0 J s a w β) (x:Operand) {i:Nat} {fs:List FV} {f:FV} (ex:s.ev x=.tup fs) (hf:fs[i]? = some f) (hn:f.hand=none):yL c w0 J s a ⟨dst,.extract x i,ty,pos,after,g⟩ w f []:=by
 have hr:=h.ev_rd ex rfl;generalize hx:a.eval x=v at hr;cases hr with
 | tup us fs hl hr =>
  have hi:i<us.length:=by rw [hl];exact (List.getElem?_eq_some_iff.1 hf).1
  have hu:us[i]? = some us[i]:=by simp [hi]
  exact .rd h (v:=us[i]) (by simp [execOp,Instr.extract,hx,hu]) (hr i _ f hu hf) hn
theorem XJ (h:FR c.N w0 J s a w β) (x:Operand) {id ver i o:Nat} (ex:s.ev x=.ptr id ver i o) (hl:s.live id ver):yL c w0 J s a ⟨dst,.nilCheck x,ty,pos,after,g⟩ w (.ptr id ver i o) []:=by
 obtain ⟨_,b,hb,hv⟩:=h.ev_ptr ex hl.1 hl.2;refine .pure h (v:=a.eval x) (by simp [execOp,hv]) ?_ (fun id' ver' e=>h.evers x (by rw [ex];exact e));have:=h.ev x;rwa [ex] at this
theorem Xj (h:FR c.N w0 J s a w β) (x:Operand) {sz i o:Nat} {es:List (List FV)} (ex:s.ev x=.eptr sz es i o):yL c w0 J s a ⟨dst,.nilCheck x,ty,pos,after,g⟩ w (.eptr sz es i o) []:=by
 obtain ⟨b,off,us,hv,_⟩:=h.ev_eptr ex;refine .rd h (v:=a.eval x) (by simp [execOp,hv]) (h.ev_rd ex rfl) rfl
inductive Src (s:FSt):FV→Nat→List (List FV)→Prop where
 | nil (sz:Nat):Src s .nil sz []
 | list (sz:Nat) (es:List (List FV)):Src s (.list sz es) sz es
 | own (id ver o n:Nat) (hl:s.live id ver) (hrl:(s.ob id).life.row=true):Src s (.own id ver o n) (s.ob id).sz (((s.ob id).es.drop o).take n)
theorem FR.src (h:FR c.N w0 J s a w β) {x:Operand} {f:FV} {sz:Nat} {es:List (List FV)} (ex:s.ev x=f) (hs:Src s f sz es):(∀ e∈es,e.length=sz)∧(∀ f∈es.flatten,f.one=true)∧
  ∃ A cc us,a.eval x=.slice A es.length cc∧es.length≤cc∧RdL w (Imm J w β s) us es.flatten∧(A=none→us=[]∧es=[])∧(∀ ad,A=some ad→∀ (j:Nat) u,us[j]? = some u→w.cell? (ad.add j)=some u):=by
 cases hs with
 | nil sz => exact ⟨by simp, by simp, none, 0, [], h.ev_nil ex, Nat.le_refl _, RdL.nil, fun _ => ⟨rfl, rfl⟩, fun _ e => by cases e⟩
 | list sz es=>
  have hr:=h.ev_rd ex rfl;generalize hx:a.eval x=v at hr;cases hr with
  | list A m cc sz es us hn hc hw ho hA hl hrr=>
   subst hn;refine ⟨hw,ho,A,cc,us,rfl,hc,⟨hl,hrr⟩,fun hA0=>?_,fun ad had j u hu=>?_⟩
   ·have:es.length=0:=by
     rcases Nat.eq_zero_or_pos es.length with h0|h0
     ·exact h0
     ·obtain ⟨b,off,e,_⟩:=hA zb;rw [hA0] at e;cases e
    have:es=[]:=List.eq_nil_of_length_eq_zero this;subst this;exact ⟨by simpa using hl,rfl⟩
   ·have h0:es.length≠0:=fun h0=>by
     have:es=[]:=List.eq_nil_of_length_eq_zero h0;subst this;have:us=[]:=by simpa using hl
     subst this;simp at hu
    obtain ⟨b,off,e,_,hcell⟩:=hA h0;rw [had] at e;injection e with e
    subst e;rw [yM];exact hcell j u hu
 | own id ver o n hl hrl=>
  obtain ⟨A,cc,e1,e2,e3,e4,e5⟩:=(h.ev_own ex hl.1 hl.2).ex;have hw:=((h.obj id hl.1).rowR hrl).wide;have hone:=((h.obj id hl.1).rowR hrl).one;have hwd:∀ e∈(s.ob id).es.drop o,e.length=(s.ob id).sz:=fun e he=>hw e (List.mem_of_mem_drop he);have hlen:(((s.ob id).es.drop o).take n).length=n:=by simp;omega
  have hfl:(((s.ob id).es.drop o).take n).flatten=((s.ob id).es.flatten.drop (o * (s.ob id).sz)).take (n * (s.ob id).sz):=by rw [xL _ hwd,xj _ hw]
  refine ⟨fun e he=>hwd e (List.mem_of_mem_take he),fun f hf=>by rw [hfl] at hf;exact hone f (List.mem_of_mem_drop (List.mem_of_mem_take hf)),?_⟩;cases hb:β id with
  | none =>
   obtain ⟨rfl,rfl⟩:=e4 hb;obtain rfl:n=0:=by omega
   exact ⟨none,0,[],by simpa using e1,by simp,by simpa using RdL.nil,fun _=>⟨rfl,by simp⟩,fun _ e=>by cases e⟩
  | some b=>
   obtain ⟨o',rfl,k2,k3⟩:=e5 b hb;obtain ⟨cur,cap,hblk,hn,hm,hcs,hr,hrow⟩:=h.block hl.1 hrl hb;refine ⟨_,cc,((cur.toList.take ((s.ob id).es.length * (s.ob id).sz)).drop (o * (s.ob id).sz)).take (n * (s.ob id).sz),by rw [hlen];exact e1,by omega,by rw [hfl];exact (hr.drop _).take _,(fun e=>by cases e),fun ad had j u hu=>?_⟩;injection had with had
   subst had;rw [yM,cell_of_row w b _ cur _ (0,0) hblk];rw [List.getElem?_take] at hu;split at hu
   ·rename_i hj;have hn0:n≠0:=by rintro rfl;simp at hj
    have:=k2 (.inl zb);subst this;rw [List.getElem?_drop,List.getElem?_take] at hu;split at hu
    ·simpa using hu
    ·cases hu
   ·cases hu
inductive Bas (s:FSt):FV→Nat→List (List FV)→Option Nat→Prop where
 | nil (sz:Nat):Bas s .nil sz [] none
 | own (id ver:Nat) (hl:(s.ob id).life=.own) (hv:(s.ob id).ver=ver) (n:Nat) (hn:n=(s.ob id).es.length):Bas s (.own id ver 0 n) (s.ob id).sz (s.ob id).es (some id)
def Zk (s:FSt) (d:Nat) (E sz:Nat) (es:List (List FV)):Option Nat→List (Nat×zn)
 | none => [(d, ⟨(s.ob d).ver+1, .own, E, sz, es⟩)]
 | some i => [(i, { s.ob i with life := .dead }), (d, ⟨(s.ob d).ver+1, .own, E, sz, es⟩)]
theorem WI (P:Program) (t ty:TypeId) (v:Value) (cc:Nat) (w:World):(Builtin.append_ #[t,t] ty #[v,.slice none 0 cc]).run P w=(Builtin.append_ #[t,t] ty #[v,.slice none 0 0]).run P w:=rfl
theorem Vc (h:FR c.N w0 J s a w β) (d:Nat) {T e:Nat} (hT:(c.ty T).k=.slice e) (he:(c.ty e).k≠.other) (hpos:0<(c.ty e).size) (x y:Operand) {f1 f2:FV} {es1 es2:List (List FV)} {i:Option Nat} (ex:s.ev x=f1) (ey:s.ev y=f2)
  (h1:Bas s f1 (c.ty e).size es1 i) (hE:∀ k,i=some k→(s.ob k).E=e) (h2:Src s f2 (c.ty e).size es2) (hb:(es1.length+es2.length) * (c.ty e).bytes≤140737488355328) (hm:es1.length+es2.length≤140737488355328) :
  yL c w0 J s a ⟨some d,.call { callee:=.builtin .append,args:=#[x,y],argTypes:=#[T,T] },ty,pos,after,g⟩ w (.own d ((s.ob d).ver+1) 0 (es1++es2).length) (Zk s d e (c.ty e).size (es1++es2) i):=by
 obtain ⟨dd,ii,z,ht⟩:=c.get hT zc;have hd:=ht.k;rw [hT] at hd;obtain rfl:=yo hd;obtain ⟨d',i',z',ht'⟩:=c.get rfl he;have hzs:z'.cells.size=(c.ty e).size:=by
  have:=(RdL.zeros (w:=w) (I:=Imm J w β s) ht'.zr).1;rw [ht'.zl] at this;simpa using this
 obtain ⟨hw2,ho2,A2,c2,us2,hy,hc2,hr2,hA2,hcell2⟩:=h.src ey h2;obtain ⟨v1,us1,hv1,hrow1,hr1,hw1,ho1,hblk1⟩:∃ v1 us1,a.eval x=v1∧w.ownsRow w0.heap.size e (c.ty e).size v1 es1.length us1∧RdL w (Imm J w β s) us1 es1.flatten∧(∀ q∈es1,q.length=(c.ty e).size)∧(∀ f∈es1.flatten,f.one=true)∧v1.ownBlock=i.bind β:=by
  generalize hsz:(c.ty e).size=sz at h1 ⊢;cases h1 with
  | nil sz => exact ⟨_, [], h.ev_nil ex, World.ownsRow_nil _ _ _ _, RdL.nil, by simp, by simp, rfl⟩
  | own id ver hl hv n hn=>
   have hlive:(s.ob id).life≠.dead:=by rw [hl];decide
   have hEe:=hE id rfl;obtain ⟨A,cc,e1,e2,e3,e4,e5⟩:=(h.ev_own ex hlive hv).ex;have hrl:(s.ob id).life.row=true:=by rw [hl];rfl
   obtain ⟨v,us,r1,r2,r3⟩:=((h.obj id hlive).rowR hrl).row;have hw:=((h.obj id hlive).rowR hrl).wide;have hone:=((h.obj id hlive).rowR hrl).one;rw [hEe] at r1;refine ⟨v,us,?_,r1,r3,hw,hone,r2⟩;rw [e1];rcases r1.2 with ⟨rfl,h0⟩|⟨b,cap,cur,rfl,_,hgg,_,_,hcs,_⟩
   ·have hb0:β id=none:=by rw [← r2];rfl
    obtain ⟨rfl,rfl⟩:=e4 hb0;rw [hn,h0]
   ·have hb0:β id=some b:=by rw [← r2];rfl
    obtain ⟨o',rfl,k2,k3⟩:=e5 b hb0;have:=k3 cur (by rw [hEe];exact hgg);rw [hcs,Nat.zero_add] at this;have hcc:cap=cc:=Nat.eq_of_mul_eq_mul_right (by rw [hsz] at hpos;exact hpos) this;rw [k2 (.inr rfl),hcc,hn];simp
 have hl1:∀ k,i=some k→(s.ob k).life=.own:=by
  intro k hk;generalize (c.ty e).size=sz at h1;cases h1 with
  | nil => cases hk
  | own id ver hl hv n hn => injection hk with hk; subst hk; exact hl
 have hlen2:us2.length=es2.length * (c.ty e).size:=by rw [hr2.1,yR hw2]
 have h1u:∀ u∈us2,u.oneCell'=true:=by
  intro u hu;obtain ⟨j,hj,rfl⟩:=List.getElem_of_mem hu;have hj2:j<es2.flatten.length:=by rw [← hr2.1];exact hj
  exact (hr2.2 j _ es2.flatten[j] (by simp [hj]) zc).oneCell (ho2 _ (List.getElem_mem hj2))
 obtain ⟨v',w',hrun,hrow',hgr,hloc⟩:∃ v' w',(Builtin.append_ #[T,T] ty #[v1,.slice A2 es2.length c2]).run c.P w=.ok v' w'∧w'.ownsRow w0.heap.size e (c.ty e).size v' (es1.length+es2.length) (us1++us2)∧w.grownBy w' v1.ownBlock∧
   (v'.ownBlock=v1.ownBlock∨v'.ownBlock=some w.heap.size):=by
  cases hA:A2 with
  | none =>
   obtain ⟨rfl,rfl⟩:=hA2 hA;rw [List.length_nil,WI];refine ⟨v1,w,run_append_owned_none (P:=c.P) (w:=w) w0.heap.size T ty e i' (c.ty e).size ht.u ht'.info v1 es1.length us1 hrow1,by simpa using hrow1,⟨rfl,rfl,rfl,Nat.le_refl _,fun _ _ _=>rfl⟩,.inl rfl⟩
  | some ad =>
   obtain ⟨v',w',q1,q2,q3,_,q5⟩:=run_append_own_at (P:=c.P) w w0.heap.size T ty e i' z' (c.ty e).size (c.ty e).bytes ht.u ht'.info ht'.zo ht'.size ht'.bytes hzs hpos v1 es1.length us1 hrow1 ad es2.length c2 us2 hlen2 (hcell2 ad hA) h1u (by unfold maxLen;omega) hb h.bel.size;exact ⟨v',w',q1,q2,q3,q5⟩
 have hexec:(execOp a.eval ⟨some d,.call { callee:=.builtin .append,args:=#[x,y],argTypes:=#[T,T] },ty,pos,after,g⟩).run c.P w=.ok (.value v') w':=by
  simp [execOp,resolve,invoke,builtin,hv1,hy,hrun]
 rw [← List.length_append] at hrow';have hFR:FR c.N w0 J (s.wr (Zk s d e (c.ty e).size (es1++es2) i)) a w' (Yg β d v'.ownBlock):=by
  refine h.make i d (es:=es1++es2) (fun k hk=>by rw [hl1 k hk];rfl) (by rw [← hblk1];exact hgr) ?_ ?_ hrow' ?_ ?_ (fun k=>?_) (fun k=>FSt.wr_get _ _ _)
  ·intro q hq;rcases List.mem_append.1 hq with h'|h'
   ·exact hw1 q h'
   ·exact hw2 q h'
  ·intro f hf;rw [List.flatten_append] at hf;rcases List.mem_append.1 hf with h'|h'
   ·exact ho1 f h'
   ·exact ho2 f h'
  ·rw [List.flatten_append];exact hr1.append hr2
  ·rw [← hblk1];rcases hloc with e|e
   ·exact .inl e
   ·exact .inr (.inr ⟨_,e,Nat.le_refl _⟩)
  ·cases i with
   | none =>
    show (FSt.set s d _).ob k=_;rw [FSt.ob_set];split
    ·rfl
    ·simp
   | some i=>
    show (FSt.set (FSt.set s i _) d _).ob k=_;rw [FSt.ob_set,FSt.ob_set];by_cases hdk:d=k
    ·rw [if_pos hdk,if_pos hdk]
    ·rw [if_neg hdk,if_neg hdk];by_cases hik:i=k
     ·subst hik;simp
     ·rw [if_neg hik,if_neg (by simpa using hik)]
 have hobd:(s.wr (Zk s d e (c.ty e).size (es1++es2) i)).ob d=⟨(s.ob d).ver+1,.own,e,(c.ty e).size,es1++es2⟩:=by
  cases i with
  | none => show (FSt.set s d _).ob d=_; rw [FSt.ob_set, if_pos rfl]
  | some i => show (FSt.set (FSt.set s i _) d _).ob d=_; rw [FSt.ob_set, if_pos rfl]
 refine ⟨v',w',_,hexec,hFR,fun _ _=>?_,fun id ver e=>?_⟩
 ·rw [hobd,zW];exact YC.of_row hrow' rfl rfl rfl rfl
 ·simp only [FV.hands,List.mem_singleton,Prod.mk.injEq] at e;obtain ⟨e1,e2⟩:=e;replace e1:=e1.symm;replace e2:=e2.symm;subst e1;subst e2;rw [hobd];exact Nat.le_refl _
theorem zbw (h:FR c.N w0 J s a w β) (d:Nat) {T e:Nat} (hT:(c.ty T).k=.slice e) (he:(c.ty e).k≠.other) (hpos:0<(c.ty e).size) (x y:Operand) {f1 f2:FV} {es1 es2:List (List FV)} {i:Option Nat} (ex:s.ev x=f1) (ey:s.ev y=f2)
  (h1:Bas s f1 (c.ty e).size es1 i) (hE:∀ k,i=some k→(s.ob k).E=e) (h2:Src s f2 (c.ty e).size es2) (hb:(es1.length+es2.length) * (c.ty e).bytes≤140737488355328) (hm:es1.length+es2.length≤140737488355328) :
  yL c w0 J s a ⟨some d,.call { callee:=.builtin .append,args:=#[x,y],argTypes:=#[T,T] },ty,pos,after,g⟩ w (.list (c.ty e).size (es1++es2)) (Zk s d e (c.ty e).size (es1++es2) i++[(d,⟨(s.ob d).ver+1,.dead,e,(c.ty e).size,es1++es2⟩)]):=by
 obtain ⟨v,w',β',hrun,hF,hV,_⟩:=Vc (ty:=ty) (pos:=pos) (after:=after) (g:=g) h d hT he hpos x y ex ey h1 hE h2 hb hm;have hobd:(s.wr (Zk s d e (c.ty e).size (es1++es2) i)).ob d=⟨(s.ob d).ver+1,.own,e,(c.ty e).size,es1++es2⟩:=by
  cases i with
  | none => show (FSt.set s d _).ob d=_; rw [FSt.ob_set, if_pos rfl]
  | some i => show (FSt.set (FSt.set s i _) d _).ob d=_; rw [FSt.ob_set, if_pos rfl]
 have hwr:s.wr (Zk s d e (c.ty e).size (es1++es2) i++[(d,⟨(s.ob d).ver+1,.dead,e,(c.ty e).size,es1++es2⟩)])=(s.wr (Zk s d e (c.ty e).size (es1++es2) i)).set d ⟨(s.ob d).ver+1,.dead,e,(c.ty e).size,es1++es2⟩:=by
  unfold FSt.wr;rw [List.foldl_append];rfl
 unfold yL;rw [hwr];generalize s.wr (Zk s d e (c.ty e).size (es1++es2) i)=s1 at hF hV hobd ⊢;have hl:(s1.ob d).life≠.dead:=by rw [hobd];exact fun q=>by cases q
 have hrl:(s1.ob d).life.row=true:=by rw [hobd];rfl
 obtain ⟨A,cc,e1,e2,e3,e4,e5⟩:=(hV hl (by rw [hobd])).ex;have hF2:FR c.N w0 J (s1.set d ⟨(s.ob d).ver+1,.dead,e,(c.ty e).size,es1++es2⟩) a w' β':=
  hF.lives d .dead (fun q=>by cases q) (fun _=>rfl) (fun q=>absurd rfl q) (fun k=>by rw [FSt.ob_set,hobd]) (fun _=>rfl) (fun q=>absurd rfl q)
 have hI:∀ b,Imm J w' β' s1 b→Imm J w' β' (s1.set d ⟨(s.ob d).ver+1,.dead,e,(c.ty e).size,es1++es2⟩) b∧w'.heap[b]? = w'.heap[b]?:=fun b hbb=>by
  refine ⟨⟨hbb.1,hbb.2.1,fun id hq=>?_⟩,rfl⟩;rw [FSt.ob_set] at hq;split at hq
  ·cases hq
  ·exact hbb.2.2 id hq
 have hw:=((hF.obj d hl).rowR hrl).wide;have hone:=((hF.obj d hl).rowR hrl).one;rw [hobd] at hw hone;refine ⟨v,w',β',hrun,hF2,?_,fun _ _ q=>(FV.no_hands rfl q).elim⟩;refine VR.of_rd ?_ rfl;rw [e1];cases hbd:β' d with
 | none =>
  obtain ⟨rfl,rfl⟩:=e4 hbd;have hn0:(es1++es2).length=0:=by omega
  have hnil:es1++es2=[]:=List.eq_nil_of_length_eq_zero hn0;exact Rd.list none _ 0 _ _ [] rfl zb hw hone (fun q=>absurd hn0 q) (by rw [hnil];rfl) (fun j u f hu=>by simp at hu)
 | some b=>
  obtain ⟨cur,cap,hblk,hn,hm2,hcs,hr,hrow⟩:=hF.block hl hrl hbd;obtain ⟨o',rfl,k2,k3⟩:=e5 b hbd;have ho' : o'=0:=by have:=k2 (.inr rfl);rw [Nat.zero_mul] at this;exact this
  subst ho';rw [hobd] at hblk hcs hr hrow hn;have hlen:(es1++es2).flatten.length=(es1++es2).length * (c.ty e).size:=yR hw;refine Rd.list (some ⟨b,0,none⟩) _ cc _ _ (cur.toList.take ((es1++es2).length * (c.ty e).size)) rfl e2 hw hone (fun _=>⟨b,0,rfl,⟨?_,?_,fun id hq hq2=>?_⟩,fun j u hu=>?_⟩) hr.1 (fun j u f hu hf=>(hr.2 j u f hu hf).mono hI)
  ·exact ((hF.obj d hl).lt hbd).2
  ·exact hF.fresh b ((hF.obj d hl).lt hbd).1 (.inr ⟨d,hl,hbd⟩)
  ·rw [FSt.ob_set] at hq;split at hq
   ·cases hq
   ·rename_i hne;exact hne (hF.inj d id b hl (zX.mine_ne hq) hbd hq2)
  ·rw [cell_of_row w' b _ cur _ (0,0) hblk];rw [List.getElem?_take] at hu;split at hu
   ·simpa using hu
   ·cases hu
end
end Go.Proofs.Ytlnehfplfoikaaa
