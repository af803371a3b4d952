/-
  linear.violation, at plain values.
-/
import Derived.Test.YtbeebjdnapkhhaaZLinClus
import Derived.Test.YtbeebjdnapkhhaaZFmQt
namespace Go.Proofs.Ytbeebjdnapkhhaa
set_option linter.unusedVariables false
open Go.RowKit

theorem zU.leS {P : Program} {f : Nat} {args : List FV} {r r' : FV} (h : zU P f args .sh r) (hle : FV.le r r') (hh : r'.hand = none) : zU P f args .sh r' where
 go := h.go
 hand := hh
 calls w I vs hI hv := (h.calls w I vs hI hv).mono fun e w' ⟨v, e1, hb, hr⟩ => ⟨v, e1, hb, Rd.le hle hr⟩
def LV.fv (c : Int) (v : LV) : List FV := [.int .i64 2, .int .i64 v.cls, .int .i64 c, .list 1 (v.ord.map yu), .list 3 (v.ed.map rtf)]
def zlH (o : List Nat) : FV := match o with | [] => .nil | x :: o => .list 1 ((x :: o).map yu)
def LV.raw (c : Int) (v : LV) : List FV := [.int .i64 2, .int .i64 v.cls, .int .i64 c, zlH v.ord, zkP v.ed]
theorem LV.le (c : Int) (v : LV) (b : FV) : FV.le (.tup [.agg (v.raw c), b]) (.tup [.agg (v.fv c), b]) := by
 refine .tup (.cons (.agg (.cons (.refl _) (.cons (.refl _) (.cons (.refl _) (.cons ?_ (.cons ?_ .nil)))))) (.cons (.refl _) .nil))
 ·unfold zlH
  cases v.ord with
  | nil => exact .nil 1
  | cons => exact .refl _
 ·unfold zkP
  cases v.ed with
  | nil => exact .nil 3
  | cons => exact .refl _
def eaF (e : Option (Nat × Nat)) : FV := match e with | none => .nil | some p => .list 1 [yu p.1, yu p.2]
set_option maxHeartbeats 8000000 in
theorem zaR (l : List OpV) (c : Int) (ins : List Bool) (hl : l.length ≤ 300) (hin : ∀ o ∈ l, zci o) (hc : I64 c) (D : yj l) (hil : ins.length = l.length) (hi0 : ∀ i, i < l.length → nth ins i = zR l i) :
  zU Try.prog 38 [.list 8 (l.map OpV.fv), .int .i64 c, .smap (YM l l.length), .list 1 (ins.map bof)] .sh (.tup [.agg ((zaj l c).fv c), .bool (decide ((zaj l c).cls ≠ 0))]) := by
 refine zU.leS ?_ (LV.le c _ _) rfl
 have hwk := Yq (l := l) (i := l.length) (Nat.le_refl _) hin
 have hlk := zk3 l
 generalize YM l l.length = W at hwk hlk
 have hcs := Wh l c ins hl hin hc D hil hi0
 refine zU.of_body (c := (xN Try.prog zE zA 118)) ⟨Try.func38, rfl, Try.ntmps38, by kernel_rfl⟩ (by simp [FV.hand]) (by exact Nat.le_of_ble_eq_true rfl) rfl ?_
 change FW _ _ _ ⟨[(0, .list 8 (l.map OpV.fv)), (1, .int .i64 c), (2, .smap W), (3, .list 1 (ins.map bof))], []⟩
 (repeat (first | refine FW.seq ?_ | refine FW.region ?_ | refine FW.block ?_ | refine zc.nil ?_ | refine yb rfl rfl rfl rfl rfl rfl rfl ?_ | refine za rfl rfl rfl ?_ | refine zb rfl rfl rfl ?_ | refine yK rfl rfl rfl rfl ?_ | refine zG rfl rfl rfl rfl rfl rfl rfl rfl rfl ?_ | refine zm rfl rfl (by exact List.length_map _) rfl rfl ?_ | refine yT.nil ?_ | refine yT.one rfl rfl rfl rfl rfl ?_))
 refine FW.loop (fun p : Nat × Option (Nat × Nat) => ⟨[(0, .list 8 (l.map OpV.fv)), (1, .int .i64 c), (2, .smap W), (3, .list 1 (ins.map bof)), (8, .ptr 102 0 0 0), (10, .ptr 103 0 0 0), (11, eaF p.2), (22, .list 8 (l.map OpV.fv)), (23, .int .i64 l.length), (24, .int .i64 p.1)], [(102, ⟨0, .own, 30, 5, [[.int .i64 0, .int .i64 0, .int .i64 0, .nil, .nil]]⟩), (103, ⟨0, .own, 30, 5, [[.int .i64 2, .int .i64 0, .int .i64 c, .nil, .nil]]⟩)]⟩) (fun p => p.1 ≤ l.length ∧ (∀ j, j < p.1 → zaQ l c j = false) ∧ match p.2 with | none => ∀ j, j < p.1 → Yb l c j = false | some q => q.1 < p.1 ∧ Yb l c q.1 = true ∧ zlj l q.1 = q.2 ∧ ∀ j, j < q.1 → Yb l c j = false) (fun p => l.length - p.1) (0, none) ⟨Nat.zero_le _, fun j hj => by omega, fun j hj => by dsimp only at hj; omega⟩ ?_ ?_
 ·exact (FLe.conv [⟨102, some 8, 0 + 1, ⟨0, .own, 30, 5, [[.int .i64 0, .int .i64 0, .int .i64 0, .nil, .nil]]⟩⟩, ⟨103, some 10, 0 + 1, ⟨0, .own, 30, 5, [[.int .i64 2, .int .i64 0, .int .i64 c, .nil, .nil]]⟩⟩] (by simp) (by simp) rfl (by repeat (first | exact .nil | refine .low rfl ?_ | refine .same rfl ?_ | refine .bump (Nat.lt_succ_self _) ?_)) (by repeat (first | exact .nil | refine .old rfl (by decide) rfl ?_)) (by repeat (first | exact .nil | refine .cons (.plain rfl rfl rfl) ?_ | refine .cons (.ptr rfl (.head _) rfl) ?_ | refine .cons (.ptr rfl (.tail _ (.head _)) rfl) ?_)))
 rintro ⟨i, e⟩ ⟨hi, hth, hea⟩
 dsimp only at hi hth hea ⊢
 (repeat (first | refine FW.seq ?_ | refine FW.region ?_ | refine zc.nil ?_ | refine zJ rfl rfl rfl rfl ?_))
 refine FW.cond rfl (fun h => ?_) (fun h => ?_)
 ·have hlt : i < l.length := by simpa using h
  clear h
  have ho := hin _ (zp hlt)
  have hvs := Zy (nth l i)
  have hlk := hlk (nth l i).key (nth l i).res
  have htd : zaQ l c i = (decide ((nth l i).key = c) && (decide ((nth l i).k = 0) && ((nth l i).done && (decide ((nth l i).res ≠ 0) && (wIx l (nth l i).key (nth l i).res).isNone)))) := rfl
  have hed : Yb l c i = (decide ((nth l i).key = c) && (decide ((nth l i).k = 0) && ((nth l i).done && (decide ((nth l i).res ≠ 0) && match wIx l (nth l i).key (nth l i).res with | none => false | some w => bef l i w)))) := rfl
  have hwo : zlj l i = (wIx l (nth l i).key (nth l i).res).getD 0 := rfl
  have hskip : ∀ e', zaQ l c i = false → (e' = e ∧ (e = none → Yb l c i = false) ∨ (e = none ∧ e' = some (i, zlj l i) ∧ Yb l c i = true)) → (i + 1 ≤ l.length ∧ (∀ j, j < i + 1 → zaQ l c j = false) ∧ match e' with | none => ∀ j, j < i + 1 → Yb l c j = false | some q => q.1 < i + 1 ∧ Yb l c q.1 = true ∧ zlj l q.1 = q.2 ∧ ∀ j, j < q.1 → Yb l c j = false) := fun e' h1 h2 => by
   refine ⟨by omega, fun j hj => ?_, ?_⟩
   ·by_cases hji : j = i
    ·subst hji; exact h1
    ·exact hth j (by omega)
   ·rcases h2 with ⟨rfl, h2⟩ | ⟨rfl, rfl, h2⟩
    ·cases e' with
     | none =>
      dsimp only at hea ⊢
      intro j hj
      by_cases hji : j = i
      ·subst hji; exact h2 rfl
      ·exact hea j (by omega)
     | some q =>
      dsimp only at hea ⊢
      exact ⟨by omega, hea.2⟩
    ·exact ⟨by dsimp only; omega, h2, rfl, fun j hj => hea j hj⟩
  obtain ⟨o, hoe⟩ : ∃ o, nth l i = o := ⟨_, rfl⟩
  rw [hoe] at ho hvs htd hed hwo hlk
  have heh : (eaF e).hand = none := by cases e <;> rfl
  (repeat (first | refine FW.seq ?_ | refine FW.region ?_ | refine FW.block ?_ | refine FW.skip ?_ | refine zc.nil ?_ | refine yb rfl rfl rfl rfl rfl rfl rfl ?_ | refine za rfl rfl rfl ?_ | refine zb rfl rfl rfl ?_ | refine zG rfl rfl rfl rfl rfl rfl rfl rfl rfl ?_ | refine zw rfl rfl rfl rfl rfl rfl (by first | (simp; omega) | (simp; done)) rfl rfl ?_ | refine zn rfl rfl rfl rfl rfl (by first | (simp; omega) | (simp; done)) (by first | exact zd (by omega) | rfl) rfl rfl rfl rfl ?_ | refine yL rfl rfl rfl (by decide) (by first | (simp; omega) | (simp; done)) (by first | exact zd (by omega) | rfl) rfl rfl rfl ?_ | refine zq rfl rfl rfl rfl rfl rfl (by decide) rfl rfl ?_ | refine xP rfl rfl rfl rfl ?_))
  rw [hoe]
  skip
  refine yy (fun h1 => ?_) (fun h1 => ?_)
  ·have h1' : ¬ o.key = c := by simpa using h1
   rw [decide_eq_false h1', Bool.false_and] at htd hed
   (repeat (first | refine FW.region ?_ | refine FW.exit ?_ | refine FW.condT rfl ?_ | refine zc.nil ?_ | refine zb rfl rfl rfl ?_ | refine zK rfl rfl rfl rfl ?_ | refine zu rfl rfl (by omega) rfl rfl ?_ | refine ye rfl rfl ⟨_, _, rfl, rfl, rfl⟩ ?_))
   exact ⟨(i + 1, e), hskip e htd (.inl ⟨rfl, fun _ => hed⟩), by dsimp only; omega, (FLe.conv [⟨102, some 102, 0, ⟨0, .own, 30, 5, [[.int .i64 0, .int .i64 0, .int .i64 0, .nil, .nil]]⟩⟩, ⟨103, some 103, 0, ⟨0, .own, 30, 5, [[.int .i64 2, .int .i64 0, .int .i64 c, .nil, .nil]]⟩⟩] (by simp) (by simp) rfl (by repeat (first | exact .nil | refine .low rfl ?_ | refine .same rfl ?_ | refine .bump (Nat.lt_succ_self _) ?_)) (by repeat (first | exact .nil | refine .old rfl (by decide) rfl ?_)) (by repeat (first | exact .nil | refine .cons (.plain rfl rfl rfl) ?_ | refine .cons (.ptr rfl (.head _) rfl) ?_ | refine .cons (.ptr rfl (.tail _ (.head _)) rfl) ?_ | refine .cons (.plain rfl (by assumption) rfl) ?_)))⟩
  have h1' : o.key = c := by simpa using h1
  rw [decide_eq_true h1', Bool.true_and] at htd hed
  (repeat (first | refine zb rfl rfl rfl ?_ | refine zL rfl rfl rfl rfl ?_ | refine zq rfl rfl rfl rfl rfl rfl (by decide) rfl ⟨_, _, rfl, rfl, rfl⟩ ?_ | refine zn rfl rfl rfl rfl rfl (by simp; done) rfl rfl rfl rfl ⟨_, _, rfl, rfl, rfl⟩ ?_ | refine xP rfl rfl rfl ⟨_, _, rfl, rfl, rfl⟩ ?_))
  refine yy (fun h2 => ?_) (fun h2 => ?_)
  ·have h2' : ¬ o.k = 0 := by simpa using h2
   rw [decide_eq_false h2', Bool.false_and] at htd hed
   (repeat (first | refine FW.region ?_ | refine FW.exit ?_ | refine FW.condT rfl ?_ | refine zc.nil ?_ | refine zb rfl rfl rfl ?_ | refine zK rfl rfl rfl rfl ?_ | refine zu rfl rfl (by omega) rfl rfl ?_ | refine ye rfl rfl ⟨_, _, rfl, rfl, rfl⟩ ?_))
   exact ⟨(i + 1, e), hskip e htd (.inl ⟨rfl, fun _ => hed⟩), by dsimp only; omega, (FLe.conv [⟨102, some 102, 0, ⟨0, .own, 30, 5, [[.int .i64 0, .int .i64 0, .int .i64 0, .nil, .nil]]⟩⟩, ⟨103, some 103, 0, ⟨0, .own, 30, 5, [[.int .i64 2, .int .i64 0, .int .i64 c, .nil, .nil]]⟩⟩] (by simp) (by simp) rfl (by repeat (first | exact .nil | refine .low rfl ?_ | refine .same rfl ?_ | refine .bump (Nat.lt_succ_self _) ?_)) (by repeat (first | exact .nil | refine .old rfl (by decide) rfl ?_)) (by repeat (first | exact .nil | refine .cons (.plain rfl rfl rfl) ?_ | refine .cons (.ptr rfl (.head _) rfl) ?_ | refine .cons (.ptr rfl (.tail _ (.head _)) rfl) ?_ | refine .cons (.plain rfl (by assumption) rfl) ?_)))⟩
  have h2' : o.k = 0 := by simpa using h2
  rw [decide_eq_true h2', Bool.true_and] at htd hed
  (repeat (first | refine zb rfl rfl rfl ?_ | refine zL rfl rfl rfl rfl ?_ | refine zq rfl rfl rfl rfl rfl rfl (by decide) rfl ⟨_, _, rfl, rfl, rfl⟩ ?_ | refine zn rfl rfl rfl rfl rfl (by simp; done) rfl rfl rfl rfl ⟨_, _, rfl, rfl, rfl⟩ ?_ | refine xE rfl rfl ⟨_, _, rfl, rfl, rfl⟩ ?_))
  cases hd : o.done with
  | false =>
   rw [hd, Bool.false_and] at htd hed
   (repeat (first | refine FW.region ?_ | refine FW.exit ?_ | refine FW.condT rfl ?_ | refine zc.nil ?_ | refine zb rfl rfl rfl ?_ | refine zK rfl rfl rfl rfl ?_ | refine zu rfl rfl (by omega) rfl rfl ?_ | refine ye rfl rfl ⟨_, _, rfl, rfl, rfl⟩ ?_))
   exact ⟨(i + 1, e), hskip e htd (.inl ⟨rfl, fun _ => hed⟩), by dsimp only; omega, (FLe.conv [⟨102, some 102, 0, ⟨0, .own, 30, 5, [[.int .i64 0, .int .i64 0, .int .i64 0, .nil, .nil]]⟩⟩, ⟨103, some 103, 0, ⟨0, .own, 30, 5, [[.int .i64 2, .int .i64 0, .int .i64 c, .nil, .nil]]⟩⟩] (by simp) (by simp) rfl (by repeat (first | exact .nil | refine .low rfl ?_ | refine .same rfl ?_ | refine .bump (Nat.lt_succ_self _) ?_)) (by repeat (first | exact .nil | refine .old rfl (by decide) rfl ?_)) (by repeat (first | exact .nil | refine .cons (.plain rfl rfl rfl) ?_ | refine .cons (.ptr rfl (.head _) rfl) ?_ | refine .cons (.ptr rfl (.tail _ (.head _)) rfl) ?_ | refine .cons (.plain rfl (by assumption) rfl) ?_)))⟩
  | true =>
   rw [hd, Bool.true_and] at htd hed
   (repeat (first | refine zc.nil ?_ | refine zL rfl rfl rfl rfl ?_ | refine zq rfl rfl rfl rfl rfl rfl (by decide) rfl ⟨_, _, rfl, rfl, rfl⟩ ?_ | refine zn rfl rfl rfl rfl rfl (by simp; done) rfl rfl rfl rfl ⟨_, _, rfl, rfl, rfl⟩ ?_ | refine yz rfl rfl rfl ⟨_, _, rfl, rfl, rfl⟩ ?_))
   refine FW.cond rfl (fun h3 => ?_) (fun h3 => ?_)
   ·have h3' : ¬ o.res ≠ 0 := by simpa using h3
    rw [decide_eq_false h3', Bool.false_and] at htd hed
    (repeat (first | refine FW.region ?_ | refine FW.exit ?_ | refine zc.nil ?_ | refine zb rfl rfl rfl ?_ | refine zu rfl rfl (by omega) rfl rfl ?_))
    exact ⟨(i + 1, e), hskip e htd (.inl ⟨rfl, fun _ => hed⟩), by dsimp only; omega, (FLe.conv [⟨102, some 102, 0, ⟨0, .own, 30, 5, [[.int .i64 0, .int .i64 0, .int .i64 0, .nil, .nil]]⟩⟩, ⟨103, some 103, 0, ⟨0, .own, 30, 5, [[.int .i64 2, .int .i64 0, .int .i64 c, .nil, .nil]]⟩⟩] (by simp) (by simp) rfl (by repeat (first | exact .nil | refine .low rfl ?_ | refine .same rfl ?_ | refine .bump (Nat.lt_succ_self _) ?_)) (by repeat (first | exact .nil | refine .old rfl (by decide) rfl ?_)) (by repeat (first | exact .nil | refine .cons (.plain rfl rfl rfl) ?_ | refine .cons (.ptr rfl (.head _) rfl) ?_ | refine .cons (.ptr rfl (.tail _ (.head _)) rfl) ?_ | refine .cons (.plain rfl (by assumption) rfl) ?_)))⟩
   have h3' : o.res ≠ 0 := by simpa using h3
   rw [decide_eq_true h3', Bool.true_and] at htd hed
   have hcell : ZK o = Vy o.key o.res := by unfold ZK; rw [Xi h2']
   rw [hcell] at hvs
   unfold zh9 at hlk
   have hwsome := fun w h => Zt (l := l) (key := o.key) (v := o.res) (w := w) h
   (repeat (first | refine FW.seq ?_ | refine FW.region ?_ | refine FW.skip ?_ | refine zb rfl rfl rfl ?_ | refine zW rfl rfl rfl (by decide) rfl rfl (by simp; done) rfl rfl rfl rfl ?_))
   refine zH hvs (by repeat (first | exact zh.nil | refine zh.cons (by exact yf.plain rfl rfl) ?_)) rfl rfl ?_
   skip
   refine UX (e := 3) Ws hwk (zaK ho.2.2.1 ho.2.2.2.2.1) hlk rfl rfl rfl rfl rfl rfl rfl ?_
   cases hw : wIx l o.key o.res with
   | none =>
    rw [hw] at htd
    have hv : zaj l c = ⟨2, [i], []⟩ := by
     unfold zaj
     rw [zcw hlt (show zaQ l c i = true from htd) hth]
    rw [hv]
    (repeat (first | refine FW.seq ?_ | refine FW.region ?_ | refine FW.condT rfl ?_ | refine zc.nil ?_ | refine za rfl rfl rfl ?_ | refine zb rfl rfl rfl ?_ | refine ZG rfl rfl rfl rfl rfl rfl rfl rfl rfl ?_ | refine zq rfl rfl rfl rfl rfl rfl (by decide) rfl rfl ?_ | refine xE rfl rfl rfl ?_ | refine zP rfl rfl rfl rfl rfl ?_ | refine xa rfl rfl rfl rfl rfl rfl rfl rfl ?_))
    refine zc.le ?_ (FLe.share 58 rfl rfl rfl)
    (repeat (first | refine FW.seq ?_ | refine FW.region ?_ | refine zc.nil ?_ | refine za rfl rfl rfl ?_ | refine ZG rfl rfl rfl rfl rfl rfl rfl rfl rfl ?_ | refine zG rfl rfl rfl rfl rfl rfl rfl rfl rfl ?_ | refine zW rfl rfl rfl (by decide) rfl rfl (by simp; done) rfl rfl rfl rfl ?_))
    refine FW.ret ⟨.inl rfl, .sh (.cons (Zk rfl rfl rfl rfl rfl rfl (by decide)) (.cons (.tmp 9 rfl rfl) .nil)) ?_ rfl⟩
    rfl
   | some w =>
    have hwl := (hwsome w hw).1
    rw [hw] at htd hed hwo
    have hbs := YX l i w hlt hwl
    (repeat (first | refine FW.seq ?_ | refine FW.region ?_ | refine FW.skip ?_ | refine FW.condF rfl ?_ | refine zc.nil ?_ | refine za rfl rfl rfl ?_ | refine zb rfl rfl rfl ?_ | refine xE rfl rfl rfl ?_ | refine zP rfl rfl rfl rfl rfl ?_))
    cases e with
    | some q =>
     skip
     refine zhM rfl rfl rfl (by simp) rfl rfl ?_
     (repeat (first | refine FW.region ?_ | refine FW.skip ?_ | refine FW.condF rfl ?_ | refine zc.nil ?_ | refine zb rfl rfl rfl ?_ | refine zL rfl rfl rfl rfl ?_ | refine zu rfl rfl (by omega) rfl rfl ?_ | refine ye rfl rfl ⟨_, _, rfl, rfl, rfl⟩ ?_))
     exact ⟨(i + 1, some q), hskip (some q) htd (.inl ⟨rfl, fun h => by cases h⟩), by dsimp only; omega, (FLe.conv [⟨102, some 102, 0, ⟨0, .own, 30, 5, [[.int .i64 0, .int .i64 0, .int .i64 0, .nil, .nil]]⟩⟩, ⟨103, some 103, 0, ⟨0, .own, 30, 5, [[.int .i64 2, .int .i64 0, .int .i64 c, .nil, .nil]]⟩⟩] (by simp) (by simp) rfl (by repeat (first | exact .nil | refine .low rfl ?_ | refine .same rfl ?_ | refine .bump (Nat.lt_succ_self _) ?_)) (by repeat (first | exact .nil | refine .old rfl (by decide) rfl ?_)) (by repeat (first | exact .nil | refine .cons (.plain rfl rfl rfl) ?_ | refine .cons (.ptr rfl (.head _) rfl) ?_ | refine .cons (.ptr rfl (.tail _ (.head _)) rfl) ?_)))⟩
    | none =>
     (repeat (first | refine zb rfl rfl rfl ?_ | refine zhN rfl rfl rfl rfl rfl ?_ | refine zb rfl rfl ⟨_, _, rfl, rfl, rfl⟩ ?_))
     refine zH hbs (by repeat (first | exact zh.nil | refine zh.cons (by exact yf.plain rfl rfl) ?_)) rfl ⟨_, _, rfl, rfl, rfl⟩ ?_
     (repeat (first | refine zc.nil ?_ | refine zK rfl rfl rfl rfl ?_))
     refine FW.cond rfl (fun h4 => ?_) (fun h4 => ?_)
     ·(repeat (first | refine FW.region ?_ | refine zb rfl rfl rfl ?_))
      refine WD (es := [yu i, yu w]) rfl rfl rfl (by refine ZT.int rfl rfl ?_; refine ZT.int rfl rfl ?_; exact ZT.nil) rfl rfl rfl rfl rfl rfl ?_
      (repeat (first | refine FW.region ?_ | refine zc.nil ?_ | refine za rfl rfl rfl ?_ | refine zb rfl rfl rfl ?_ | refine zu rfl rfl (by omega) rfl rfl ?_))
      refine ⟨(i + 1, some (i, w)), hskip (some (i, w)) htd (.inr ⟨rfl, by rw [hwo]; rfl, hed.trans h4⟩), by dsimp only; omega, FLe.trans (FLe.share 11 rfl rfl rfl) ?_⟩
      exact (FLe.conv [⟨102, some 102, 0, ⟨0, .own, 30, 5, [[.int .i64 0, .int .i64 0, .int .i64 0, .nil, .nil]]⟩⟩, ⟨103, some 103, 0, ⟨0, .own, 30, 5, [[.int .i64 2, .int .i64 0, .int .i64 c, .nil, .nil]]⟩⟩] (by simp) (by simp) rfl (by repeat (first | exact .nil | refine .low rfl ?_ | refine .same rfl ?_ | refine .bump (Nat.lt_succ_self _) ?_)) (by repeat (first | exact .nil | refine .old rfl (by decide) rfl ?_)) (by repeat (first | exact .nil | refine .cons (.plain rfl rfl rfl) ?_ | refine .cons (.ptr rfl (.head _) rfl) ?_ | refine .cons (.ptr rfl (.tail _ (.head _)) rfl) ?_)))
     ·(repeat (first | refine FW.region ?_ | refine FW.skip ?_ | refine zc.nil ?_ | refine zb rfl rfl rfl ?_ | refine zu rfl rfl (by omega) rfl rfl ?_))
      exact ⟨(i + 1, none), hskip none htd (.inl ⟨rfl, fun _ => hed.trans h4⟩), by dsimp only; omega, (FLe.conv [⟨102, some 102, 0, ⟨0, .own, 30, 5, [[.int .i64 0, .int .i64 0, .int .i64 0, .nil, .nil]]⟩⟩, ⟨103, some 103, 0, ⟨0, .own, 30, 5, [[.int .i64 2, .int .i64 0, .int .i64 c, .nil, .nil]]⟩⟩] (by simp) (by simp) rfl (by repeat (first | exact .nil | refine .low rfl ?_ | refine .same rfl ?_ | refine .bump (Nat.lt_succ_self _) ?_)) (by repeat (first | exact .nil | refine .old rfl (by decide) rfl ?_)) (by repeat (first | exact .nil | refine .cons (.plain rfl rfl rfl) ?_ | refine .cons (.ptr rfl (.head _) rfl) ?_ | refine .cons (.ptr rfl (.tail _ (.head _)) rfl) ?_)))⟩
 obtain rfl : i = l.length := by simp at h; omega
 clear h
 have hnt := zcv hth
 (repeat (first | refine FW.seq ?_ | refine FW.region ?_ | refine FW.exit ?_ | refine zb rfl rfl rfl ?_))
 cases e with
 | some q =>
  obtain ⟨q1, q2, q3, q4⟩ := hea
  have hv : zaj l c = ⟨3, [q.1, q.2], []⟩ := by
   unfold zaj
   rw [hnt]
   dsimp only
   rw [zcw q1 q2 q4]
   dsimp only
   rw [q3]
  rw [hv]
  skip
  refine zdq rfl rfl rfl (by simp) rfl rfl ?_
  (repeat (first | refine FW.seq ?_ | refine FW.region ?_ | refine FW.condT rfl ?_ | refine zc.nil ?_ | refine za rfl rfl rfl ?_ | refine zb rfl rfl rfl ?_ | refine ZG rfl rfl rfl rfl rfl rfl rfl rfl rfl ?_ | refine zG rfl rfl rfl rfl rfl rfl rfl rfl rfl ?_ | refine zW rfl rfl rfl (by decide) rfl rfl (by simp; done) rfl rfl rfl rfl ?_ | refine zq rfl rfl rfl rfl rfl rfl (by decide) rfl rfl ?_))
  refine FW.ret ⟨.inl rfl, .sh (.cons (Zk rfl rfl rfl rfl rfl rfl (by decide)) (.cons (.tmp 9 rfl rfl) .nil)) ?_ rfl⟩
  rfl
 | none =>
  have hne := zcv hea
  have hv : zaj l c = if zdL l c = [] then ⟨0, [], []⟩ else ⟨4, [], zdL l c⟩ := by
   unfold zaj
   rw [hnt]
   dsimp only
   rw [hne]
  have hcs := hcs fun i hi hk => by
   have := hth i hi
   unfold zaQ at this
   rw [decide_eq_true hk, Bool.true_and] at this
   exact this
  unfold zdL at hv
  have hK := Ub (l := l) (c := c)
  have hck : ∀ j, j < (Zo l c).length → 0 < (nth (Zo l c) j).ops.length ∧ (nth (Zo l c) j).ops.length ≤ 1000000000 ∧ ∀ i ∈ (nth (Zo l c) j).ops, i < l.length := fun j hj => ⟨zdO D hj, by have := zgF hj; omega, fun i hi => ((xZ D hj).1 hi).1⟩
  obtain ⟨C, hC⟩ : ∃ C, Zo l c = C := ⟨_, rfl⟩
  rw [hC] at hcs hv hK hck
  obtain ⟨V, hV⟩ : ∃ V, zaj l c = V := ⟨_, rfl⟩
  rw [hV] at hv ⊢
  obtain ⟨A, hA⟩ : ∃ A, cfI l C C.length 0 = A := ⟨_, rfl⟩
  rw [hA] at hv
  (repeat (first | refine FW.seq ?_ | refine FW.region ?_ | refine FW.skip ?_ | refine FW.condF rfl ?_ | refine zc.nil ?_ | refine zb rfl rfl rfl ?_ | refine zdr rfl rfl rfl rfl rfl ?_))
  refine xx hcs (by repeat (first | exact zh.nil | refine zh.cons (by exact yf.plain rfl rfl) ?_)) rfl rfl ?_
  (repeat (first | refine FW.seq ?_ | refine FW.region ?_ | refine FW.block ?_ | refine zc.nil ?_ | refine za rfl rfl rfl ?_ | refine zb rfl rfl rfl ?_ | refine zm rfl rfl (by exact List.length_map _) rfl rfl ?_))
  refine FW.loop (fun i : Nat => ⟨[(0, .list 8 (l.map OpV.fv)), (1, .int .i64 c), (2, .smap W), (3, .list 1 (ins.map bof)), (8, .ptr 102 0 0 0), (10, .ptr 103 0 0 0), (16, .list 2 (C.map ClV.fv)), (87, .int .i64 C.length), (88, .int .i64 i)], [(102, ⟨0, .own, 30, 5, [[.int .i64 0, .int .i64 0, .int .i64 0, .nil, .nil]]⟩), (103, ⟨0, .own, 30, 5, [[.int .i64 2, .int .i64 0, .int .i64 c, .nil, .nil]]⟩)]⟩) (fun i => i ≤ C.length ∧ cfI l C (C.length - i) i = A) (fun i => C.length - i) 0 ⟨Nat.zero_le _, hA⟩ ?_ ?_
  ·exact (FLe.conv [⟨102, some 102, 0, ⟨0, .own, 30, 5, [[.int .i64 0, .int .i64 0, .int .i64 0, .nil, .nil]]⟩⟩, ⟨103, some 103, 0, ⟨0, .own, 30, 5, [[.int .i64 2, .int .i64 0, .int .i64 c, .nil, .nil]]⟩⟩] (by simp) (by simp) rfl (by repeat (first | exact .nil | refine .low rfl ?_ | refine .same rfl ?_ | refine .bump (Nat.lt_succ_self _) ?_)) (by repeat (first | exact .nil | refine .old rfl (by decide) rfl ?_)) (by repeat (first | exact .nil | refine .cons (.plain rfl rfl rfl) ?_ | refine .cons (.ptr rfl (.head _) rfl) ?_ | refine .cons (.ptr rfl (.tail _ (.head _)) rfl) ?_)))
  rintro i ⟨hi, hcf⟩
  (repeat (first | refine FW.seq ?_ | refine FW.region ?_ | refine zc.nil ?_ | refine zJ rfl rfl rfl rfl ?_))
  refine FW.cond rfl (fun h => ?_) (fun h => ?_)
  ·have hlt : i < C.length := by simpa using h
   clear h
   rw [show C.length - i = (C.length - (i + 1)) + 1 by omega] at hcf
   unfold cfI at hcf
   obtain ⟨B, hB⟩ : ∃ B, cfK l C i (C.length - (i + 1)) (i + 1) = B := ⟨_, rfl⟩
   rw [hB] at hcf
   (repeat (first | refine FW.seq ?_ | refine FW.region ?_ | refine FW.block ?_ | refine FW.skip ?_ | refine zc.nil ?_ | refine za rfl rfl rfl ?_ | refine zb rfl rfl rfl ?_ | refine zu rfl rfl (by omega) rfl rfl ?_))
   refine FW.loop (fun k : Nat => ⟨[(0, .list 8 (l.map OpV.fv)), (1, .int .i64 c), (2, .smap W), (3, .list 1 (ins.map bof)), (8, .ptr 102 0 0 0), (10, .ptr 103 0 0 0), (16, .list 2 (C.map ClV.fv)), (17, .int .i64 i), (18, .int .i64 k), (87, .int .i64 C.length), (88, .int .i64 i)], [(102, ⟨0, .own, 30, 5, [[.int .i64 0, .int .i64 0, .int .i64 0, .nil, .nil]]⟩), (103, ⟨0, .own, 30, 5, [[.int .i64 2, .int .i64 0, .int .i64 c, .nil, .nil]]⟩)]⟩) (fun k => i + 1 ≤ k ∧ k ≤ C.length ∧ cfK l C i (C.length - k) k = B) (fun k => C.length - k) (i + 1) ⟨Nat.le_refl _, hlt, hB⟩ ?_ ?_
   ·exact (FLe.conv [⟨102, some 102, 0, ⟨0, .own, 30, 5, [[.int .i64 0, .int .i64 0, .int .i64 0, .nil, .nil]]⟩⟩, ⟨103, some 103, 0, ⟨0, .own, 30, 5, [[.int .i64 2, .int .i64 0, .int .i64 c, .nil, .nil]]⟩⟩] (by simp) (by simp) rfl (by repeat (first | exact .nil | refine .low rfl ?_ | refine .same rfl ?_ | refine .bump (Nat.lt_succ_self _) ?_)) (by repeat (first | exact .nil | refine .old rfl (by decide) rfl ?_)) (by repeat (first | exact .nil | refine .cons (.plain rfl rfl rfl) ?_ | refine .cons (.ptr rfl (.head _) rfl) ?_ | refine .cons (.ptr rfl (.tail _ (.head _)) rfl) ?_)))
   rintro k ⟨hk1, hk, hcK⟩
   (repeat (first | refine FW.seq ?_ | refine FW.region ?_ | refine zc.nil ?_ | refine zb rfl rfl rfl ?_ | refine zm rfl rfl (by exact List.length_map _) rfl rfl ?_ | refine zJ rfl rfl rfl rfl ?_))
   refine FW.cond rfl (fun h => ?_) (fun h => ?_)
   ·have hltk : k < C.length := by simpa using h
    clear h
    rw [show C.length - k = (C.length - (k + 1)) + 1 by omega] at hcK
    unfold cfK at hcK
    obtain ⟨x0, x1, x2⟩ := hck i hlt
    obtain ⟨y0, y1, y2⟩ := hck k hltk
    obtain ⟨X, hX⟩ : ∃ X, nth C i = X := ⟨_, rfl⟩
    obtain ⟨Y, hY⟩ : ∃ Y, nth C k = Y := ⟨_, rfl⟩
    rw [hX] at x0 x1 x2 hcK
    rw [hY] at y0 y1 y2 hcK
    have hcon := zbz l X Y (by omega) x1 y1 x0 y0 x2 y2
    (repeat (first | refine FW.seq ?_ | refine FW.block ?_ | refine FW.skip ?_))
    refine FW.drawQ (by kernel_rfl) ?_
    (repeat (first | refine zM rfl rfl rfl ?_ | refine zQ rfl rfl rfl rfl rfl rfl (by simp; omega) rfl rfl ?_ | refine zhB rfl rfl rfl (by decide) (by simp; omega) (by first | exact zd (by omega) | rfl) rfl rfl rfl ?_))
    rw [hX, hY]
    refine zi6 hcon (by repeat (first | exact zh.nil | refine zh.cons (by exact yf.plain rfl rfl) ?_)) rfl rfl ?_
    (repeat (first | refine zI.nil ?_ | refine yE rfl rfl rfl ?_))
    refine ⟨by kernel_rfl, ?_⟩
    cases hE : Vt l X Y with
    | nil =>
     rw [hE, if_pos rfl] at hcK
     (repeat (first | refine FW.seq ?_ | refine FW.region ?_ | refine FW.skip ?_ | refine FW.condF rfl ?_ | refine zc.nil ?_ | refine za rfl rfl rfl ?_ | refine zb rfl rfl rfl ?_ | refine zdr rfl rfl rfl rfl rfl ?_ | refine zu rfl rfl (by omega) rfl rfl ?_))
     exact ⟨k + 1, ⟨by omega, by omega, hcK⟩, by omega, (FLe.conv [⟨102, some 102, 0, ⟨0, .own, 30, 5, [[.int .i64 0, .int .i64 0, .int .i64 0, .nil, .nil]]⟩⟩, ⟨103, some 103, 0, ⟨0, .own, 30, 5, [[.int .i64 2, .int .i64 0, .int .i64 c, .nil, .nil]]⟩⟩] (by simp) (by simp) rfl (by repeat (first | exact .nil | refine .low rfl ?_ | refine .same rfl ?_ | refine .bump (Nat.lt_succ_self _) ?_)) (by repeat (first | exact .nil | refine .old rfl (by decide) rfl ?_)) (by repeat (first | exact .nil | refine .cons (.plain rfl rfl rfl) ?_ | refine .cons (.ptr rfl (.head _) rfl) ?_ | refine .cons (.ptr rfl (.tail _ (.head _)) rfl) ?_)))⟩
    | cons e0 E =>
     rw [hE, if_neg (by simp)] at hcK
     subst hcK
     rw [if_neg (by simp)] at hcf
     subst hcf
     rw [if_neg (by simp)] at hv
     subst hv
     (repeat (first | refine FW.seq ?_ | refine FW.region ?_ | refine zb rfl rfl rfl ?_))
     refine zdq rfl rfl rfl (by simp) rfl rfl ?_
     (repeat (first | refine FW.seq ?_ | refine FW.region ?_ | refine FW.condT rfl ?_ | refine zc.nil ?_ | refine za rfl rfl rfl ?_ | refine zb rfl rfl rfl ?_ | refine ZG rfl rfl rfl rfl rfl rfl rfl rfl rfl ?_ | refine zG rfl rfl rfl rfl rfl rfl rfl rfl rfl ?_ | refine zW rfl rfl rfl (by decide) rfl rfl (by simp; done) rfl rfl rfl rfl ?_ | refine zq rfl rfl rfl rfl rfl rfl (by decide) rfl rfl ?_))
     refine FW.ret ⟨.inl rfl, .sh (.cons (Zk rfl rfl rfl rfl rfl rfl (by decide)) (.cons (.tmp 9 rfl rfl) .nil)) ?_ rfl⟩
     rfl
   ·obtain rfl : k = C.length := by simp at h; omega
    rw [Nat.sub_self] at hcK
    have hB0 : B = [] := hcK.symm
    rw [if_pos hB0] at hcf
    (repeat (first | refine FW.region ?_ | refine FW.exit ?_ | refine zc.nil ?_ | refine zb rfl rfl rfl ?_ | refine zu rfl rfl (by omega) rfl rfl ?_))
    exact ⟨i + 1, ⟨by omega, hcf⟩, by omega, (FLe.conv [⟨102, some 102, 0, ⟨0, .own, 30, 5, [[.int .i64 0, .int .i64 0, .int .i64 0, .nil, .nil]]⟩⟩, ⟨103, some 103, 0, ⟨0, .own, 30, 5, [[.int .i64 2, .int .i64 0, .int .i64 c, .nil, .nil]]⟩⟩] (by simp) (by simp) rfl (by repeat (first | exact .nil | refine .low rfl ?_ | refine .same rfl ?_ | refine .bump (Nat.lt_succ_self _) ?_)) (by repeat (first | exact .nil | refine .old rfl (by decide) rfl ?_)) (by repeat (first | exact .nil | refine .cons (.plain rfl rfl rfl) ?_ | refine .cons (.ptr rfl (.head _) rfl) ?_ | refine .cons (.ptr rfl (.tail _ (.head _)) rfl) ?_)))⟩
  ·obtain rfl : i = C.length := by simp at h; omega
   rw [Nat.sub_self] at hcf
   have hA0 : A = [] := hcf.symm
   rw [if_pos hA0] at hv
   subst hv
   (repeat (first | refine FW.seq ?_ | refine FW.region ?_ | refine FW.exit ?_ | refine zc.nil ?_ | refine za rfl rfl rfl ?_ | refine zG rfl rfl rfl rfl rfl rfl rfl rfl rfl ?_ | refine zW rfl rfl rfl (by decide) rfl rfl (by simp; done) rfl rfl rfl rfl ?_))
   refine FW.ret ⟨.inl rfl, .sh (.cons (Zk rfl rfl rfl rfl rfl rfl (by decide)) (.cons (.tmp 9 rfl rfl) .nil)) ?_ rfl⟩
   rfl
end Go.Proofs.Ytbeebjdnapkhhaa
