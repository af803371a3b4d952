/-
  linear.violation, at plain values.
-/
import Derived.Test.YtbeebjdnapkhhaaZLinClus
import Derived.Test.YtbeebjdnapkhhaaZFmQt
namespace Go.Proofs.Ytbeebjdnapkhhaa
set_option linter.unusedVariables false
open Go.RowKit

theorem yg.leS {P : Program} {f : Nat} {args : List FV} {r r' : FV} (h : yg P f args .sh r) (hle : FV.le r r') (hh : r'.hand = none) : yg P f args .sh r' where
 go := h.go
 hand := hh
 calls w I vs hI hv := (h.calls w I vs hI hv).mono fun e w' ⟨v, e1, hb, hr⟩ => ⟨v, e1, hb, Rd.le hle hr⟩
def LV.fv (c : Int) (v : LV) : List FV := [.int .i64 2, .int .i64 v.cls, .int .i64 c, .list 1 (v.ord.map zQ), .list 3 (v.ed.map rtf)]
def zla (o : List Nat) : FV := match o with | [] => .nil | x :: o => .list 1 ((x :: o).map zQ)
def LV.raw (c : Int) (v : LV) : List FV := [.int .i64 2, .int .i64 v.cls, .int .i64 c, zla v.ord, zkg v.ed]
theorem LV.le (c : Int) (v : LV) (b : FV) : FV.le (.tup [.agg (v.raw c), b]) (.tup [.agg (v.fv c), b]) := by
 refine .tup (.cons (.agg (.cons (.refl _) (.cons (.refl _) (.cons (.refl _) (.cons ?_ (.cons ?_ .nil)))))) (.cons (.refl _) .nil))
 ·unfold zla
  cases v.ord with
  | nil => exact .nil 1
  | cons => exact .refl _
 ·unfold zkg
  cases v.ed with
  | nil => exact .nil 3
  | cons => exact .refl _
def eaF (e : Option (Nat × Nat)) : FV := match e with | none => .nil | some p => .list 1 [zQ p.1, zQ p.2]
set_option maxHeartbeats 8000000 in
theorem zaB (l : List OpV) (c : Int) (ins : List Bool) (hl : l.length ≤ 300) (hin : ∀ o ∈ l, zdm o) (hc : I64 c) (D : yq l) (hil : ins.length = l.length) (hi0 : ∀ i, i < l.length → nth ins i = zW l i) :
  yg Try.prog 38 [.list 8 (l.map OpV.fv), .int .i64 c, .smap (YX l l.length), .list 1 (ins.map bof)] .sh (.tup [.agg ((UW l c).fv c), .bool (decide ((UW l c).cls ≠ 0))]) := by
 refine yg.leS ?_ (LV.le c _ _) rfl
 have hwk := Yd (l := l) (i := l.length) (Nat.le_refl _) hin
 have hlk := zkt l
 generalize YX l l.length = W at hwk hlk
 have hcs := XU l c ins hl hin hc D hil hi0
 refine yg.of_body (c := (Zy Try.prog zG zA 118)) ⟨Try.func38, rfl, Try.ntmps38, by kernel_rfl⟩ (by simp [FV.hand]) (by exact Nat.le_of_ble_eq_true rfl) rfl ?_
 change FW _ _ _ ⟨[(0, .list 8 (l.map OpV.fv)), (1, .int .i64 c), (2, .smap W), (3, .list 1 (ins.map bof))], []⟩
 (repeat (first | refine FW.seq ?_ | refine FW.region ?_ | refine FW.block ?_ | refine zc.nil ?_ | refine zY rfl rfl rfl rfl rfl rfl rfl ?_ | refine za rfl rfl rfl ?_ | refine zb rfl rfl rfl ?_ | refine yI rfl rfl rfl rfl ?_ | refine zC rfl rfl rfl rfl rfl rfl rfl rfl rfl ?_ | refine zm rfl rfl (by exact List.length_map _) rfl rfl ?_ | refine yP.nil ?_ | refine yP.one rfl rfl rfl rfl rfl ?_))
 refine FW.loop (fun p : Nat × Option (Nat × Nat) => ⟨[(0, .list 8 (l.map OpV.fv)), (1, .int .i64 c), (2, .smap W), (3, .list 1 (ins.map bof)), (8, .ptr 102 0 0 0), (10, .ptr 103 0 0 0), (11, eaF p.2), (22, .list 8 (l.map OpV.fv)), (23, .int .i64 l.length), (24, .int .i64 p.1)], [(102, ⟨0, .own, 30, 5, [[.int .i64 0, .int .i64 0, .int .i64 0, .nil, .nil]]⟩), (103, ⟨0, .own, 30, 5, [[.int .i64 2, .int .i64 0, .int .i64 c, .nil, .nil]]⟩)]⟩) (fun p => p.1 ≤ l.length ∧ (∀ j, j < p.1 → zaA l c j = false) ∧ match p.2 with | none => ∀ j, j < p.1 → ZM l c j = false | some q => q.1 < p.1 ∧ ZM l c q.1 = true ∧ zkL l q.1 = q.2 ∧ ∀ j, j < q.1 → ZM l c j = false) (fun p => l.length - p.1) (0, none) ⟨Nat.zero_le _, fun j hj => by omega, fun j hj => by dsimp only at hj; omega⟩ ?_ ?_
 ·exact (FLe.conv [⟨102, some 8, 0 + 1, ⟨0, .own, 30, 5, [[.int .i64 0, .int .i64 0, .int .i64 0, .nil, .nil]]⟩⟩, ⟨103, some 10, 0 + 1, ⟨0, .own, 30, 5, [[.int .i64 2, .int .i64 0, .int .i64 c, .nil, .nil]]⟩⟩] (by simp) (by simp) rfl (by repeat (first | exact .nil | refine .low rfl ?_ | refine .same rfl ?_ | refine .bump (Nat.lt_succ_self _) ?_)) (by repeat (first | exact .nil | refine .old rfl (by decide) rfl ?_)) (by repeat (first | exact .nil | refine .cons (.plain rfl rfl rfl) ?_ | refine .cons (.ptr rfl (.head _) rfl) ?_ | refine .cons (.ptr rfl (.tail _ (.head _)) rfl) ?_)))
 rintro ⟨i, e⟩ ⟨hi, hth, hea⟩
 dsimp only at hi hth hea ⊢
 (repeat (first | refine FW.seq ?_ | refine FW.region ?_ | refine zc.nil ?_ | refine zH rfl rfl rfl rfl ?_))
 refine FW.cond rfl (fun h => ?_) (fun h => ?_)
 ·have hlt : i < l.length := by simpa using h
  clear h
  have ho := hin _ (zn hlt)
  have hvs := Zn (nth l i)
  have hlk := hlk (nth l i).key (nth l i).res
  have htd : zaA l c i = (decide ((nth l i).key = c) && (decide ((nth l i).k = 0) && ((nth l i).done && (decide ((nth l i).res ≠ 0) && (wIx l (nth l i).key (nth l i).res).isNone)))) := rfl
  have hed : ZM l c i = (decide ((nth l i).key = c) && (decide ((nth l i).k = 0) && ((nth l i).done && (decide ((nth l i).res ≠ 0) && match wIx l (nth l i).key (nth l i).res with | none => false | some w => bef l i w)))) := rfl
  have hwo : zkL l i = (wIx l (nth l i).key (nth l i).res).getD 0 := rfl
  have hskip : ∀ e', zaA l c i = false → (e' = e ∧ (e = none → ZM l c i = false) ∨ (e = none ∧ e' = some (i, zkL l i) ∧ ZM l c i = true)) → (i + 1 ≤ l.length ∧ (∀ j, j < i + 1 → zaA l c j = false) ∧ match e' with | none => ∀ j, j < i + 1 → ZM l c j = false | some q => q.1 < i + 1 ∧ ZM l c q.1 = true ∧ zkL l q.1 = q.2 ∧ ∀ j, j < q.1 → ZM l c j = false) := fun e' h1 h2 => by
   refine ⟨by omega, fun j hj => ?_, ?_⟩
   ·by_cases hji : j = i
    ·subst hji; exact h1
    ·exact hth j (by omega)
   ·rcases h2 with ⟨rfl, h2⟩ | ⟨rfl, rfl, h2⟩
    ·cases e' with
     | none =>
      dsimp only at hea ⊢
      intro j hj
      by_cases hji : j = i
      ·subst hji; exact h2 rfl
      ·exact hea j (by omega)
     | some q =>
      dsimp only at hea ⊢
      exact ⟨by omega, hea.2⟩
    ·exact ⟨by dsimp only; omega, h2, rfl, fun j hj => hea j hj⟩
  obtain ⟨o, hoe⟩ : ∃ o, nth l i = o := ⟨_, rfl⟩
  rw [hoe] at ho hvs htd hed hwo hlk
  have heh : (eaF e).hand = none := by cases e <;> rfl
  (repeat (first | refine FW.seq ?_ | refine FW.region ?_ | refine FW.block ?_ | refine FW.skip ?_ | refine zc.nil ?_ | refine zY rfl rfl rfl rfl rfl rfl rfl ?_ | refine za rfl rfl rfl ?_ | refine zb rfl rfl rfl ?_ | refine zC rfl rfl rfl rfl rfl rfl rfl rfl rfl ?_ | refine zD rfl rfl rfl rfl rfl rfl (by first | (simp; omega) | (simp; done)) rfl rfl ?_ | refine zq rfl rfl rfl rfl rfl (by first | (simp; omega) | (simp; done)) (by first | exact zd (by omega) | rfl) rfl rfl rfl rfl ?_ | refine yV rfl rfl rfl (by decide) (by first | (simp; omega) | (simp; done)) (by first | exact zd (by omega) | rfl) rfl rfl rfl ?_ | refine zt rfl rfl rfl rfl rfl rfl (by decide) rfl rfl ?_ | refine Zc rfl rfl rfl rfl ?_))
  rw [hoe]
  skip
  refine xd (fun h1 => ?_) (fun h1 => ?_)
  ·have h1' : ¬ o.key = c := by simpa using h1
   rw [decide_eq_false h1', Bool.false_and] at htd hed
   (repeat (first | refine FW.region ?_ | refine FW.exit ?_ | refine FW.condT rfl ?_ | refine zc.nil ?_ | refine zb rfl rfl rfl ?_ | refine zM rfl rfl rfl rfl ?_ | refine zu rfl rfl (by omega) rfl rfl ?_ | refine yA rfl rfl ⟨_, _, rfl, rfl, rfl⟩ ?_))
   exact ⟨(i + 1, e), hskip e htd (.inl ⟨rfl, fun _ => hed⟩), by dsimp only; omega, (FLe.conv [⟨102, some 102, 0, ⟨0, .own, 30, 5, [[.int .i64 0, .int .i64 0, .int .i64 0, .nil, .nil]]⟩⟩, ⟨103, some 103, 0, ⟨0, .own, 30, 5, [[.int .i64 2, .int .i64 0, .int .i64 c, .nil, .nil]]⟩⟩] (by simp) (by simp) rfl (by repeat (first | exact .nil | refine .low rfl ?_ | refine .same rfl ?_ | refine .bump (Nat.lt_succ_self _) ?_)) (by repeat (first | exact .nil | refine .old rfl (by decide) rfl ?_)) (by repeat (first | exact .nil | refine .cons (.plain rfl rfl rfl) ?_ | refine .cons (.ptr rfl (.head _) rfl) ?_ | refine .cons (.ptr rfl (.tail _ (.head _)) rfl) ?_ | refine .cons (.plain rfl (by assumption) rfl) ?_)))⟩
  have h1' : o.key = c := by simpa using h1
  rw [decide_eq_true h1', Bool.true_and] at htd hed
  (repeat (first | refine zb rfl rfl rfl ?_ | refine zP rfl rfl rfl rfl ?_ | refine zt rfl rfl rfl rfl rfl rfl (by decide) rfl ⟨_, _, rfl, rfl, rfl⟩ ?_ | refine zq rfl rfl rfl rfl rfl (by simp; done) rfl rfl rfl rfl ⟨_, _, rfl, rfl, rfl⟩ ?_ | refine Zc rfl rfl rfl ⟨_, _, rfl, rfl, rfl⟩ ?_))
  refine xd (fun h2 => ?_) (fun h2 => ?_)
  ·have h2' : ¬ o.k = 0 := by simpa using h2
   rw [decide_eq_false h2', Bool.false_and] at htd hed
   (repeat (first | refine FW.region ?_ | refine FW.exit ?_ | refine FW.condT rfl ?_ | refine zc.nil ?_ | refine zb rfl rfl rfl ?_ | refine zM rfl rfl rfl rfl ?_ | refine zu rfl rfl (by omega) rfl rfl ?_ | refine yA rfl rfl ⟨_, _, rfl, rfl, rfl⟩ ?_))
   exact ⟨(i + 1, e), hskip e htd (.inl ⟨rfl, fun _ => hed⟩), by dsimp only; omega, (FLe.conv [⟨102, some 102, 0, ⟨0, .own, 30, 5, [[.int .i64 0, .int .i64 0, .int .i64 0, .nil, .nil]]⟩⟩, ⟨103, some 103, 0, ⟨0, .own, 30, 5, [[.int .i64 2, .int .i64 0, .int .i64 c, .nil, .nil]]⟩⟩] (by simp) (by simp) rfl (by repeat (first | exact .nil | refine .low rfl ?_ | refine .same rfl ?_ | refine .bump (Nat.lt_succ_self _) ?_)) (by repeat (first | exact .nil | refine .old rfl (by decide) rfl ?_)) (by repeat (first | exact .nil | refine .cons (.plain rfl rfl rfl) ?_ | refine .cons (.ptr rfl (.head _) rfl) ?_ | refine .cons (.ptr rfl (.tail _ (.head _)) rfl) ?_ | refine .cons (.plain rfl (by assumption) rfl) ?_)))⟩
  have h2' : o.k = 0 := by simpa using h2
  rw [decide_eq_true h2', Bool.true_and] at htd hed
  (repeat (first | refine zb rfl rfl rfl ?_ | refine zP rfl rfl rfl rfl ?_ | refine zt rfl rfl rfl rfl rfl rfl (by decide) rfl ⟨_, _, rfl, rfl, rfl⟩ ?_ | refine zq rfl rfl rfl rfl rfl (by simp; done) rfl rfl rfl rfl ⟨_, _, rfl, rfl, rfl⟩ ?_ | refine Yz rfl rfl ⟨_, _, rfl, rfl, rfl⟩ ?_))
  cases hd : o.done with
  | false =>
   rw [hd, Bool.false_and] at htd hed
   (repeat (first | refine FW.region ?_ | refine FW.exit ?_ | refine FW.condT rfl ?_ | refine zc.nil ?_ | refine zb rfl rfl rfl ?_ | refine zM rfl rfl rfl rfl ?_ | refine zu rfl rfl (by omega) rfl rfl ?_ | refine yA rfl rfl ⟨_, _, rfl, rfl, rfl⟩ ?_))
   exact ⟨(i + 1, e), hskip e htd (.inl ⟨rfl, fun _ => hed⟩), by dsimp only; omega, (FLe.conv [⟨102, some 102, 0, ⟨0, .own, 30, 5, [[.int .i64 0, .int .i64 0, .int .i64 0, .nil, .nil]]⟩⟩, ⟨103, some 103, 0, ⟨0, .own, 30, 5, [[.int .i64 2, .int .i64 0, .int .i64 c, .nil, .nil]]⟩⟩] (by simp) (by simp) rfl (by repeat (first | exact .nil | refine .low rfl ?_ | refine .same rfl ?_ | refine .bump (Nat.lt_succ_self _) ?_)) (by repeat (first | exact .nil | refine .old rfl (by decide) rfl ?_)) (by repeat (first | exact .nil | refine .cons (.plain rfl rfl rfl) ?_ | refine .cons (.ptr rfl (.head _) rfl) ?_ | refine .cons (.ptr rfl (.tail _ (.head _)) rfl) ?_ | refine .cons (.plain rfl (by assumption) rfl) ?_)))⟩
  | true =>
   rw [hd, Bool.true_and] at htd hed
   (repeat (first | refine zc.nil ?_ | refine zP rfl rfl rfl rfl ?_ | refine zt rfl rfl rfl rfl rfl rfl (by decide) rfl ⟨_, _, rfl, rfl, rfl⟩ ?_ | refine zq rfl rfl rfl rfl rfl (by simp; done) rfl rfl rfl rfl ⟨_, _, rfl, rfl, rfl⟩ ?_ | refine yU rfl rfl rfl ⟨_, _, rfl, rfl, rfl⟩ ?_))
   refine FW.cond rfl (fun h3 => ?_) (fun h3 => ?_)
   ·have h3' : ¬ o.res ≠ 0 := by simpa using h3
    rw [decide_eq_false h3', Bool.false_and] at htd hed
    (repeat (first | refine FW.region ?_ | refine FW.exit ?_ | refine zc.nil ?_ | refine zb rfl rfl rfl ?_ | refine zu rfl rfl (by omega) rfl rfl ?_))
    exact ⟨(i + 1, e), hskip e htd (.inl ⟨rfl, fun _ => hed⟩), by dsimp only; omega, (FLe.conv [⟨102, some 102, 0, ⟨0, .own, 30, 5, [[.int .i64 0, .int .i64 0, .int .i64 0, .nil, .nil]]⟩⟩, ⟨103, some 103, 0, ⟨0, .own, 30, 5, [[.int .i64 2, .int .i64 0, .int .i64 c, .nil, .nil]]⟩⟩] (by simp) (by simp) rfl (by repeat (first | exact .nil | refine .low rfl ?_ | refine .same rfl ?_ | refine .bump (Nat.lt_succ_self _) ?_)) (by repeat (first | exact .nil | refine .old rfl (by decide) rfl ?_)) (by repeat (first | exact .nil | refine .cons (.plain rfl rfl rfl) ?_ | refine .cons (.ptr rfl (.head _) rfl) ?_ | refine .cons (.ptr rfl (.tail _ (.head _)) rfl) ?_ | refine .cons (.plain rfl (by assumption) rfl) ?_)))⟩
   have h3' : o.res ≠ 0 := by simpa using h3
   rw [decide_eq_true h3', Bool.true_and] at htd hed
   have hcell : Zx o = Vk o.key o.res := by unfold Zx; rw [YV h2']
   rw [hcell] at hvs
   unfold zhH at hlk
   have hwsome := fun w h => Zk (l := l) (key := o.key) (v := o.res) (w := w) h
   (repeat (first | refine FW.seq ?_ | refine FW.region ?_ | refine FW.skip ?_ | refine zb rfl rfl rfl ?_ | refine zS rfl rfl rfl (by decide) rfl rfl (by simp; done) rfl rfl rfl rfl ?_))
   refine zJ hvs (by repeat (first | exact zj.nil | refine zj.cons (by exact yu.plain rfl rfl) ?_)) rfl rfl ?_
   skip
   refine UL (e := 3) We hwk (zau ho.2.2.1 ho.2.2.2.2.1) hlk rfl rfl rfl rfl rfl rfl rfl ?_
   cases hw : wIx l o.key o.res with
   | none =>
    rw [hw] at htd
    have hv : UW l c = ⟨2, [i], []⟩ := by
     unfold UW
     rw [zcg hlt (show zaA l c i = true from htd) hth]
    rw [hv]
    (repeat (first | refine FW.seq ?_ | refine FW.region ?_ | refine FW.condT rfl ?_ | refine zc.nil ?_ | refine za rfl rfl rfl ?_ | refine zb rfl rfl rfl ?_ | refine ZY rfl rfl rfl rfl rfl rfl rfl rfl rfl ?_ | refine zt rfl rfl rfl rfl rfl rfl (by decide) rfl rfl ?_ | refine Yz rfl rfl rfl ?_ | refine zI rfl rfl rfl rfl rfl ?_ | refine yz rfl rfl rfl rfl rfl rfl rfl rfl ?_))
    refine zc.le ?_ (FLe.share 58 rfl rfl rfl)
    (repeat (first | refine FW.seq ?_ | refine FW.region ?_ | refine zc.nil ?_ | refine za rfl rfl rfl ?_ | refine ZY rfl rfl rfl rfl rfl rfl rfl rfl rfl ?_ | refine zC rfl rfl rfl rfl rfl rfl rfl rfl rfl ?_ | refine zS rfl rfl rfl (by decide) rfl rfl (by simp; done) rfl rfl rfl rfl ?_))
    refine FW.ret ⟨.inl rfl, .sh (.cons (Za rfl rfl rfl rfl rfl rfl (by decide)) (.cons (.tmp 9 rfl rfl) .nil)) ?_ rfl⟩
    rfl
   | some w =>
    have hwl := (hwsome w hw).1
    rw [hw] at htd hed hwo
    have hbs := YL l i w hlt hwl
    (repeat (first | refine FW.seq ?_ | refine FW.region ?_ | refine FW.skip ?_ | refine FW.condF rfl ?_ | refine zc.nil ?_ | refine za rfl rfl rfl ?_ | refine zb rfl rfl rfl ?_ | refine Yz rfl rfl rfl ?_ | refine zI rfl rfl rfl rfl rfl ?_))
    cases e with
    | some q =>
     skip
     refine zhk rfl rfl rfl (by simp) rfl rfl ?_
     (repeat (first | refine FW.region ?_ | refine FW.skip ?_ | refine FW.condF rfl ?_ | refine zc.nil ?_ | refine zb rfl rfl rfl ?_ | refine zP rfl rfl rfl rfl ?_ | refine zu rfl rfl (by omega) rfl rfl ?_ | refine yA rfl rfl ⟨_, _, rfl, rfl, rfl⟩ ?_))
     exact ⟨(i + 1, some q), hskip (some q) htd (.inl ⟨rfl, fun h => by cases h⟩), by dsimp only; omega, (FLe.conv [⟨102, some 102, 0, ⟨0, .own, 30, 5, [[.int .i64 0, .int .i64 0, .int .i64 0, .nil, .nil]]⟩⟩, ⟨103, some 103, 0, ⟨0, .own, 30, 5, [[.int .i64 2, .int .i64 0, .int .i64 c, .nil, .nil]]⟩⟩] (by simp) (by simp) rfl (by repeat (first | exact .nil | refine .low rfl ?_ | refine .same rfl ?_ | refine .bump (Nat.lt_succ_self _) ?_)) (by repeat (first | exact .nil | refine .old rfl (by decide) rfl ?_)) (by repeat (first | exact .nil | refine .cons (.plain rfl rfl rfl) ?_ | refine .cons (.ptr rfl (.head _) rfl) ?_ | refine .cons (.ptr rfl (.tail _ (.head _)) rfl) ?_)))⟩
    | none =>
     (repeat (first | refine zb rfl rfl rfl ?_ | refine zhl rfl rfl rfl rfl rfl ?_ | refine zb rfl rfl ⟨_, _, rfl, rfl, rfl⟩ ?_))
     refine zJ hbs (by repeat (first | exact zj.nil | refine zj.cons (by exact yu.plain rfl rfl) ?_)) rfl ⟨_, _, rfl, rfl, rfl⟩ ?_
     (repeat (first | refine zc.nil ?_ | refine zM rfl rfl rfl rfl ?_))
     refine FW.cond rfl (fun h4 => ?_) (fun h4 => ?_)
     ·(repeat (first | refine FW.region ?_ | refine zb rfl rfl rfl ?_))
      refine Wo (es := [zQ i, zQ w]) rfl rfl rfl (by refine ZG.int rfl rfl ?_; refine ZG.int rfl rfl ?_; exact ZG.nil) rfl rfl rfl rfl rfl rfl ?_
      (repeat (first | refine FW.region ?_ | refine zc.nil ?_ | refine za rfl rfl rfl ?_ | refine zb rfl rfl rfl ?_ | refine zu rfl rfl (by omega) rfl rfl ?_))
      refine ⟨(i + 1, some (i, w)), hskip (some (i, w)) htd (.inr ⟨rfl, by rw [hwo]; rfl, hed.trans h4⟩), by dsimp only; omega, FLe.trans (FLe.share 11 rfl rfl rfl) ?_⟩
      exact (FLe.conv [⟨102, some 102, 0, ⟨0, .own, 30, 5, [[.int .i64 0, .int .i64 0, .int .i64 0, .nil, .nil]]⟩⟩, ⟨103, some 103, 0, ⟨0, .own, 30, 5, [[.int .i64 2, .int .i64 0, .int .i64 c, .nil, .nil]]⟩⟩] (by simp) (by simp) rfl (by repeat (first | exact .nil | refine .low rfl ?_ | refine .same rfl ?_ | refine .bump (Nat.lt_succ_self _) ?_)) (by repeat (first | exact .nil | refine .old rfl (by decide) rfl ?_)) (by repeat (first | exact .nil | refine .cons (.plain rfl rfl rfl) ?_ | refine .cons (.ptr rfl (.head _) rfl) ?_ | refine .cons (.ptr rfl (.tail _ (.head _)) rfl) ?_)))
     ·(repeat (first | refine FW.region ?_ | refine FW.skip ?_ | refine zc.nil ?_ | refine zb rfl rfl rfl ?_ | refine zu rfl rfl (by omega) rfl rfl ?_))
      exact ⟨(i + 1, none), hskip none htd (.inl ⟨rfl, fun _ => hed.trans h4⟩), by dsimp only; omega, (FLe.conv [⟨102, some 102, 0, ⟨0, .own, 30, 5, [[.int .i64 0, .int .i64 0, .int .i64 0, .nil, .nil]]⟩⟩, ⟨103, some 103, 0, ⟨0, .own, 30, 5, [[.int .i64 2, .int .i64 0, .int .i64 c, .nil, .nil]]⟩⟩] (by simp) (by simp) rfl (by repeat (first | exact .nil | refine .low rfl ?_ | refine .same rfl ?_ | refine .bump (Nat.lt_succ_self _) ?_)) (by repeat (first | exact .nil | refine .old rfl (by decide) rfl ?_)) (by repeat (first | exact .nil | refine .cons (.plain rfl rfl rfl) ?_ | refine .cons (.ptr rfl (.head _) rfl) ?_ | refine .cons (.ptr rfl (.tail _ (.head _)) rfl) ?_)))⟩
 obtain rfl : i = l.length := by simp at h; omega
 clear h
 have hnt := zcf hth
 (repeat (first | refine FW.seq ?_ | refine FW.region ?_ | refine FW.exit ?_ | refine zb rfl rfl rfl ?_))
 cases e with
 | some q =>
  obtain ⟨q1, q2, q3, q4⟩ := hea
  have hv : UW l c = ⟨3, [q.1, q.2], []⟩ := by
   unfold UW
   rw [hnt]
   dsimp only
   rw [zcg q1 q2 q4]
   dsimp only
   rw [q3]
  rw [hv]
  skip
  refine zc4 rfl rfl rfl (by simp) rfl rfl ?_
  (repeat (first | refine FW.seq ?_ | refine FW.region ?_ | refine FW.condT rfl ?_ | refine zc.nil ?_ | refine za rfl rfl rfl ?_ | refine zb rfl rfl rfl ?_ | refine ZY rfl rfl rfl rfl rfl rfl rfl rfl rfl ?_ | refine zC rfl rfl rfl rfl rfl rfl rfl rfl rfl ?_ | refine zS rfl rfl rfl (by decide) rfl rfl (by simp; done) rfl rfl rfl rfl ?_ | refine zt rfl rfl rfl rfl rfl rfl (by decide) rfl rfl ?_))
  refine FW.ret ⟨.inl rfl, .sh (.cons (Za rfl rfl rfl rfl rfl rfl (by decide)) (.cons (.tmp 9 rfl rfl) .nil)) ?_ rfl⟩
  rfl
 | none =>
  have hne := zcf hea
  have hv : UW l c = if zds l c = [] then ⟨0, [], []⟩ else ⟨4, [], zds l c⟩ := by
   unfold UW
   rw [hnt]
   dsimp only
   rw [hne]
  have hcs := hcs fun i hi hk => by
   have := hth i hi
   unfold zaA at this
   rw [decide_eq_true hk, Bool.true_and] at this
   exact this
  unfold zds at hv
  have hK := VK (l := l) (c := c)
  have hck : ∀ j, j < (Zf l c).length → 0 < (nth (Zf l c) j).ops.length ∧ (nth (Zf l c) j).ops.length ≤ 1000000000 ∧ ∀ i ∈ (nth (Zf l c) j).ops, i < l.length := fun j hj => ⟨zdv D hj, by have := zgc hj; omega, fun i hi => ((xR D hj).1 hi).1⟩
  obtain ⟨C, hC⟩ : ∃ C, Zf l c = C := ⟨_, rfl⟩
  rw [hC] at hcs hv hK hck
  obtain ⟨V, hV⟩ : ∃ V, UW l c = V := ⟨_, rfl⟩
  rw [hV] at hv ⊢
  obtain ⟨A, hA⟩ : ∃ A, cfI l C C.length 0 = A := ⟨_, rfl⟩
  rw [hA] at hv
  (repeat (first | refine FW.seq ?_ | refine FW.region ?_ | refine FW.skip ?_ | refine FW.condF rfl ?_ | refine zc.nil ?_ | refine zb rfl rfl rfl ?_ | refine zc5 rfl rfl rfl rfl rfl ?_))
  refine yZ hcs (by repeat (first | exact zj.nil | refine zj.cons (by exact yu.plain rfl rfl) ?_)) rfl rfl ?_
  (repeat (first | refine FW.seq ?_ | refine FW.region ?_ | refine FW.block ?_ | refine zc.nil ?_ | refine za rfl rfl rfl ?_ | refine zb rfl rfl rfl ?_ | refine zm rfl rfl (by exact List.length_map _) rfl rfl ?_))
  refine FW.loop (fun i : Nat => ⟨[(0, .list 8 (l.map OpV.fv)), (1, .int .i64 c), (2, .smap W), (3, .list 1 (ins.map bof)), (8, .ptr 102 0 0 0), (10, .ptr 103 0 0 0), (16, .list 2 (C.map ClV.fv)), (87, .int .i64 C.length), (88, .int .i64 i)], [(102, ⟨0, .own, 30, 5, [[.int .i64 0, .int .i64 0, .int .i64 0, .nil, .nil]]⟩), (103, ⟨0, .own, 30, 5, [[.int .i64 2, .int .i64 0, .int .i64 c, .nil, .nil]]⟩)]⟩) (fun i => i ≤ C.length ∧ cfI l C (C.length - i) i = A) (fun i => C.length - i) 0 ⟨Nat.zero_le _, hA⟩ ?_ ?_
  ·exact (FLe.conv [⟨102, some 102, 0, ⟨0, .own, 30, 5, [[.int .i64 0, .int .i64 0, .int .i64 0, .nil, .nil]]⟩⟩, ⟨103, some 103, 0, ⟨0, .own, 30, 5, [[.int .i64 2, .int .i64 0, .int .i64 c, .nil, .nil]]⟩⟩] (by simp) (by simp) rfl (by repeat (first | exact .nil | refine .low rfl ?_ | refine .same rfl ?_ | refine .bump (Nat.lt_succ_self _) ?_)) (by repeat (first | exact .nil | refine .old rfl (by decide) rfl ?_)) (by repeat (first | exact .nil | refine .cons (.plain rfl rfl rfl) ?_ | refine .cons (.ptr rfl (.head _) rfl) ?_ | refine .cons (.ptr rfl (.tail _ (.head _)) rfl) ?_)))
  rintro i ⟨hi, hcf⟩
  (repeat (first | refine FW.seq ?_ | refine FW.region ?_ | refine zc.nil ?_ | refine zH rfl rfl rfl rfl ?_))
  refine FW.cond rfl (fun h => ?_) (fun h => ?_)
  ·have hlt : i < C.length := by simpa using h
   clear h
   rw [show C.length - i = (C.length - (i + 1)) + 1 by omega] at hcf
   unfold cfI at hcf
   obtain ⟨B, hB⟩ : ∃ B, cfK l C i (C.length - (i + 1)) (i + 1) = B := ⟨_, rfl⟩
   rw [hB] at hcf
   (repeat (first | refine FW.seq ?_ | refine FW.region ?_ | refine FW.block ?_ | refine FW.skip ?_ | refine zc.nil ?_ | refine za rfl rfl rfl ?_ | refine zb rfl rfl rfl ?_ | refine zu rfl rfl (by omega) rfl rfl ?_))
   refine FW.loop (fun k : Nat => ⟨[(0, .list 8 (l.map OpV.fv)), (1, .int .i64 c), (2, .smap W), (3, .list 1 (ins.map bof)), (8, .ptr 102 0 0 0), (10, .ptr 103 0 0 0), (16, .list 2 (C.map ClV.fv)), (17, .int .i64 i), (18, .int .i64 k), (87, .int .i64 C.length), (88, .int .i64 i)], [(102, ⟨0, .own, 30, 5, [[.int .i64 0, .int .i64 0, .int .i64 0, .nil, .nil]]⟩), (103, ⟨0, .own, 30, 5, [[.int .i64 2, .int .i64 0, .int .i64 c, .nil, .nil]]⟩)]⟩) (fun k => i + 1 ≤ k ∧ k ≤ C.length ∧ cfK l C i (C.length - k) k = B) (fun k => C.length - k) (i + 1) ⟨Nat.le_refl _, hlt, hB⟩ ?_ ?_
   ·exact (FLe.conv [⟨102, some 102, 0, ⟨0, .own, 30, 5, [[.int .i64 0, .int .i64 0, .int .i64 0, .nil, .nil]]⟩⟩, ⟨103, some 103, 0, ⟨0, .own, 30, 5, [[.int .i64 2, .int .i64 0, .int .i64 c, .nil, .nil]]⟩⟩] (by simp) (by simp) rfl (by repeat (first | exact .nil | refine .low rfl ?_ | refine .same rfl ?_ | refine .bump (Nat.lt_succ_self _) ?_)) (by repeat (first | exact .nil | refine .old rfl (by decide) rfl ?_)) (by repeat (first | exact .nil | refine .cons (.plain rfl rfl rfl) ?_ | refine .cons (.ptr rfl (.head _) rfl) ?_ | refine .cons (.ptr rfl (.tail _ (.head _)) rfl) ?_)))
   rintro k ⟨hk1, hk, hcK⟩
   (repeat (first | refine FW.seq ?_ | refine FW.region ?_ | refine zc.nil ?_ | refine zb rfl rfl rfl ?_ | refine zm rfl rfl (by exact List.length_map _) rfl rfl ?_ | refine zH rfl rfl rfl rfl ?_))
   refine FW.cond rfl (fun h => ?_) (fun h => ?_)
   ·have hltk : k < C.length := by simpa using h
    clear h
    rw [show C.length - k = (C.length - (k + 1)) + 1 by omega] at hcK
    unfold cfK at hcK
    obtain ⟨x0, x1, x2⟩ := hck i hlt
    obtain ⟨y0, y1, y2⟩ := hck k hltk
    obtain ⟨X, hX⟩ : ∃ X, nth C i = X := ⟨_, rfl⟩
    obtain ⟨Y, hY⟩ : ∃ Y, nth C k = Y := ⟨_, rfl⟩
    rw [hX] at x0 x1 x2 hcK
    rw [hY] at y0 y1 y2 hcK
    have hcon := zbh l X Y (by omega) x1 y1 x0 y0 x2 y2
    (repeat (first | refine FW.seq ?_ | refine FW.block ?_ | refine FW.skip ?_))
    refine FW.drawQ (by kernel_rfl) ?_
    (repeat (first | refine zV rfl rfl rfl ?_ | refine yj rfl rfl rfl rfl rfl rfl (by simp; omega) rfl rfl ?_ | refine zg9 rfl rfl rfl (by decide) (by simp; omega) (by first | exact zd (by omega) | rfl) rfl rfl rfl ?_))
    rw [hX, hY]
    refine ziA hcon (by repeat (first | exact zj.nil | refine zj.cons (by exact yu.plain rfl rfl) ?_)) rfl rfl ?_
    (repeat (first | refine zE.nil ?_ | refine xH rfl rfl rfl ?_))
    refine ⟨by kernel_rfl, ?_⟩
    cases hE : Vf l X Y with
    | nil =>
     rw [hE, if_pos rfl] at hcK
     (repeat (first | refine FW.seq ?_ | refine FW.region ?_ | refine FW.skip ?_ | refine FW.condF rfl ?_ | refine zc.nil ?_ | refine za rfl rfl rfl ?_ | refine zb rfl rfl rfl ?_ | refine zc5 rfl rfl rfl rfl rfl ?_ | refine zu rfl rfl (by omega) rfl rfl ?_))
     exact ⟨k + 1, ⟨by omega, by omega, hcK⟩, by omega, (FLe.conv [⟨102, some 102, 0, ⟨0, .own, 30, 5, [[.int .i64 0, .int .i64 0, .int .i64 0, .nil, .nil]]⟩⟩, ⟨103, some 103, 0, ⟨0, .own, 30, 5, [[.int .i64 2, .int .i64 0, .int .i64 c, .nil, .nil]]⟩⟩] (by simp) (by simp) rfl (by repeat (first | exact .nil | refine .low rfl ?_ | refine .same rfl ?_ | refine .bump (Nat.lt_succ_self _) ?_)) (by repeat (first | exact .nil | refine .old rfl (by decide) rfl ?_)) (by repeat (first | exact .nil | refine .cons (.plain rfl rfl rfl) ?_ | refine .cons (.ptr rfl (.head _) rfl) ?_ | refine .cons (.ptr rfl (.tail _ (.head _)) rfl) ?_)))⟩
    | cons e0 E =>
     rw [hE, if_neg (by simp)] at hcK
     subst hcK
     rw [if_neg (by simp)] at hcf
     subst hcf
     rw [if_neg (by simp)] at hv
     subst hv
     (repeat (first | refine FW.seq ?_ | refine FW.region ?_ | refine zb rfl rfl rfl ?_))
     refine zc4 rfl rfl rfl (by simp) rfl rfl ?_
     (repeat (first | refine FW.seq ?_ | refine FW.region ?_ | refine FW.condT rfl ?_ | refine zc.nil ?_ | refine za rfl rfl rfl ?_ | refine zb rfl rfl rfl ?_ | refine ZY rfl rfl rfl rfl rfl rfl rfl rfl rfl ?_ | refine zC rfl rfl rfl rfl rfl rfl rfl rfl rfl ?_ | refine zS rfl rfl rfl (by decide) rfl rfl (by simp; done) rfl rfl rfl rfl ?_ | refine zt rfl rfl rfl rfl rfl rfl (by decide) rfl rfl ?_))
     refine FW.ret ⟨.inl rfl, .sh (.cons (Za rfl rfl rfl rfl rfl rfl (by decide)) (.cons (.tmp 9 rfl rfl) .nil)) ?_ rfl⟩
     rfl
   ·obtain rfl : k = C.length := by simp at h; omega
    rw [Nat.sub_self] at hcK
    have hB0 : B = [] := hcK.symm
    rw [if_pos hB0] at hcf
    (repeat (first | refine FW.region ?_ | refine FW.exit ?_ | refine zc.nil ?_ | refine zb rfl rfl rfl ?_ | refine zu rfl rfl (by omega) rfl rfl ?_))
    exact ⟨i + 1, ⟨by omega, hcf⟩, by omega, (FLe.conv [⟨102, some 102, 0, ⟨0, .own, 30, 5, [[.int .i64 0, .int .i64 0, .int .i64 0, .nil, .nil]]⟩⟩, ⟨103, some 103, 0, ⟨0, .own, 30, 5, [[.int .i64 2, .int .i64 0, .int .i64 c, .nil, .nil]]⟩⟩] (by simp) (by simp) rfl (by repeat (first | exact .nil | refine .low rfl ?_ | refine .same rfl ?_ | refine .bump (Nat.lt_succ_self _) ?_)) (by repeat (first | exact .nil | refine .old rfl (by decide) rfl ?_)) (by repeat (first | exact .nil | refine .cons (.plain rfl rfl rfl) ?_ | refine .cons (.ptr rfl (.head _) rfl) ?_ | refine .cons (.ptr rfl (.tail _ (.head _)) rfl) ?_)))⟩
  ·obtain rfl : i = C.length := by simp at h; omega
   rw [Nat.sub_self] at hcf
   have hA0 : A = [] := hcf.symm
   rw [if_pos hA0] at hv
   subst hv
   (repeat (first | refine FW.seq ?_ | refine FW.region ?_ | refine FW.exit ?_ | refine zc.nil ?_ | refine za rfl rfl rfl ?_ | refine zC rfl rfl rfl rfl rfl rfl rfl rfl rfl ?_ | refine zS rfl rfl rfl (by decide) rfl rfl (by simp; done) rfl rfl rfl rfl ?_))
   refine FW.ret ⟨.inl rfl, .sh (.cons (Za rfl rfl rfl rfl rfl rfl (by decide)) (.cons (.tmp 9 rfl rfl) .nil)) ?_ rfl⟩
   rfl
end Go.Proofs.Ytbeebjdnapkhhaa
