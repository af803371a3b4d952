/-
  serial.Check, at plain values.
-/
import Derived.Test.YtokmanfcndelfaaZFmSer3
import Derived.Test.YtokmanfcndelfaaZFmSer4
import Derived.Test.YtokmanfcndelfaaZFmDel
import Derived.Test.YtokmanfcndelfaaZFmTopoL
import Derived.Test.YtokmanfcndelfaaZFmLives03
namespace Go.Proofs.Ytokmanfcndelfaa
set_option linter.unusedVariables false
open Go.RowKit

theorem yc.sh_of_ow {P : Program} {f : Nat} {args : List FV} {E sz : Nat} {r : FV} (h : yc P f args (.ow E sz) r) : yc P f args .sh r where
 go := h.go
 hand := h.hand
 calls w I vs hI hv := (h.calls w I vs hI hv).mono fun e w' ⟨v, e1, hb, hr⟩ => by
  obtain ⟨es, us, rfl, hw, ho, hrow, hrd⟩ := hr
  refine ⟨v, e1, hb, ?_⟩
  have hm : RdL w' (fun b => I b ∨ (w.heap.size ≤ b ∧ b < w'.heap.size)) us es.flatten := hrd.mono fun b hb => ⟨.inr ⟨hb.1, hb.2.1⟩, rfl⟩
  rcases hrow.2 with ⟨rfl, h0⟩ | ⟨b, cap, cur, rfl, hlow, hgg, hn, _, hcs, htk⟩
  ·exact Rd.list none 0 0 sz es us h0 (Nat.le_refl _) hw ho (fun h => absurd rfl h) hm.1 hm.2
  ·refine Rd.list (some ⟨b, 0, none⟩) es.length cap sz es us rfl hn hw ho (fun _ => ⟨b, 0, rfl, .inr ⟨hlow, (Array.getElem?_eq_some_iff.1 hgg).1⟩, fun j u hu => ?_⟩) hm.1 hm.2
   rw [cell_of_row _ b _ cur _ (0, 0) hgg]
   rw [← htk, List.getElem?_take] at hu
   split at hu
   ·simpa using hu
   ·cases hu
def zcM.fv (v : zcM) : List FV := [.int .i64 v.check, .int .i64 v.cls, .int .i64 v.arg, .list 1 (v.ord.map zp), .list 3 (v.ed.map EdV.fv)]
def zcM.raw (v : zcM) : List FV := [.int .i64 v.check, .int .i64 v.cls, .int .i64 v.arg, if v.cls = 5 ∨ v.check = 0 then .nil else .list 1 (v.ord.map zp), if v.cls = 5 then .list 3 (v.ed.map EdV.fv) else .nil]
def zac (l : List OpV) (s : Bool) : zcM := if ZQ l = true then zfC l s else ⟨0, 0, 0, [], []⟩
def zct (l : List OpV) : Int := if ZQ l = true then 0 else 22
theorem ziv (l : List OpV) (s : Bool) : FV.le (.tup [.agg (zac l s).raw, .int .i64 (zct l)]) (.tup [.agg (zac l s).fv, .int .i64 (zct l)]) := by
 refine .tup (.cons (.agg (.cons (.refl _) (.cons (.refl _) (.cons (.refl _) (.cons ?_ (.cons ?_ .nil)))))) (.cons (.refl _) .nil))
 ·split
  ·rename_i h
   have : (zac l s).ord = [] := by
    unfold zac at h ⊢
    split
    ·rename_i hd
     rw [if_pos hd] at h
     unfold zfC at h ⊢
     cases ht : YA l with
     | some v => rw [ht] at h; dsimp only at h; unfold cOf at h; split at h <;> omega
     | none =>
      rw [ht] at h
      dsimp only at h ⊢
      by_cases hc : yH l s = []
      ·rw [if_pos hc] at h; dsimp only at h; unfold cOf at h; split at h <;> omega
      ·rw [if_neg hc]
    ·rfl
   rw [this]; exact .nil 1
  ·exact .refl _
 ·split
  ·exact .refl _
  ·rename_i h
   have : (zac l s).ed = [] := by
    unfold zac at h ⊢
    split
    ·rename_i hd
     rw [if_pos hd] at h
     unfold zfC at h ⊢
     cases ht : YA l with
     | some v => rfl
     | none =>
      rw [ht] at h
      dsimp only at h ⊢
      by_cases hc : yH l s = []
      ·rw [if_pos hc]
      ·rw [if_neg hc] at h; exact absurd rfl h
    ·rfl
   rw [this]; exact .nil 3
set_option maxHeartbeats 1000000 in
theorem zcY (l : List OpV) (i : Nat) (hi : i < l.length) : yc Try.prog 20 ([.int .i64 i] ++ [zf4 l]) .fr (.bool (!zV (nth l i))) := by
 refine yc.of_body (c := (xB Try.prog zE zq 10)) ⟨Try.func20, rfl, Try.ntmps20, by kernel_rfl⟩ (by simp [FV.hand]) (by exact Nat.le_of_ble_eq_true rfl) rfl ?_
 change FW _ _ _ ⟨[(0, .int .i64 i), (1, .eptr 1 [[.list 8 (l.map OpV.fv)]] 0 0)], []⟩
 (repeat (first | refine FW.seq ?_ | refine FW.region ?_ | refine zd.nil ?_ | refine za rfl rfl rfl ?_ | refine zA rfl rfl rfl (by first | (simp; omega) | (simp; done)) (by first | exact zc (by omega) | rfl) rfl rfl rfl rfl ?_ | refine yG rfl rfl rfl (by decide) (by first | (simp; omega) | (simp; done)) (by first | exact zc (by omega) | rfl) rfl rfl rfl ?_ | refine zb rfl rfl rfl ?_ | refine zh rfl rfl rfl rfl rfl rfl (by first | (simp; omega) | (simp; done)) rfl rfl ?_))
 refine zX (Wy (nth l i)) (by repeat (first | exact zx.nil | refine zx.cons (by exact yI.plain rfl rfl) ?_)) rfl rfl ?_
 (repeat (first | refine zd.nil ?_ | refine za rfl rfl rfl ?_ | refine xd rfl rfl rfl ?_))
 exact FW.ret ⟨.inl rfl, zj rfl rfl rfl rfl⟩
theorem zip (s : Bool) : cOf s ≠ 0 := by unfold cOf; split <;> decide
theorem zjT (s : Bool) (a : Int) (o : List Int) : (⟨cOf s, 2, a, o, []⟩ : zcM).raw = [.int .i64 (cOf s), .int .i64 2, .int .i64 a, .list 1 (o.map zp), .nil] := by
 have := zip s
 unfold zcM.raw; dsimp only; rw [if_neg (by omega), if_neg (by decide)]
theorem zjS (s : Bool) (a : Int) (o : List Int) : (⟨cOf s, 0, a, o, []⟩ : zcM).raw = [.int .i64 (cOf s), .int .i64 0, .int .i64 a, .list 1 (o.map zp), .nil] := by
 have := zip s
 unfold zcM.raw; dsimp only; rw [if_neg (by omega), if_neg (by decide)]
theorem zjU (s : Bool) (a : Int) (e : List EdV) : (⟨cOf s, 5, a, [], e⟩ : zcM).raw = [.int .i64 (cOf s), .int .i64 5, .int .i64 a, .nil, .list 3 (e.map EdV.fv)] := by
 unfold zcM.raw; dsimp only; rw [if_pos (.inl rfl), if_pos rfl]
theorem zcG {l : List OpV} {i : Nat} (hi : i < l.length) : Yl (zaf l) (l.length - i) i = if zaf l i = true then some i else Yl (zaf l) (l.length - (i + 1)) (i + 1) := by
 rw [show l.length - i = (l.length - (i + 1)) + 1 by omega]; rfl
set_option maxHeartbeats 8000000 in
theorem Xu (l : List OpV) (s : Bool) (hl : l.length ≤ 12) (hin : ∀ o ∈ l, zcS o) : yc Try.prog 7 [.list 8 (l.map OpV.fv), .bool s] .sh (.tup [.agg (zac l s).fv, .int .i64 (zct l)]) := by
 refine yc.le ?_ (ziv l s) rfl
 have hwr := zbj l (by omega) hin
 obtain ⟨R, hR⟩ : ∃ R, zac l s = R := ⟨_, rfl⟩
 obtain ⟨E, hE⟩ : ∃ E, zct l = E := ⟨_, rfl⟩
 rw [hR, hE]
 refine yc.of_body (c := (xB Try.prog zE zq 121)) ⟨Try.func7, rfl, Try.ntmps7, by kernel_rfl⟩ (by simp [FV.hand]) (by exact Nat.le_of_ble_eq_true rfl) rfl ?_
 change FW _ _ _ ⟨[(0, .list 8 (l.map OpV.fv)), (1, .bool s)], []⟩
 (repeat (first | refine FW.seq ?_ | refine FW.region ?_ | refine zd.nil ?_ | refine zgY rfl rfl rfl rfl rfl ?_ | refine yu rfl rfl rfl rfl rfl rfl rfl ?_ | refine za rfl rfl rfl ?_ | refine zm rfl rfl rfl rfl rfl (by simp; done) rfl rfl rfl rfl rfl ?_))
 refine xc hwr (by repeat (first | exact zx.nil | refine zx.cons (by exact yI.plain rfl rfl) ?_)) rfl rfl ?_
 (repeat (first | refine zb rfl rfl rfl ?_))
 cases hd : ZQ l with
 | false =>
  have hRf : R = ⟨0, 0, 0, [], []⟩ := by rw [← hR]; unfold zac; rw [if_neg (by rw [hd]; decide)]
  have hEf : E = 22 := by rw [← hE]; unfold zct; rw [if_neg (by rw [hd]; decide)]
  subst hRf; subst hEf
  (repeat (first | refine FW.seq ?_ | refine FW.region ?_ | refine FW.condT rfl ?_ | refine zd.nil ?_ | refine za rfl rfl rfl ?_ | refine zb rfl rfl rfl ?_ | refine yv rfl rfl rfl rfl rfl ?_ | refine xd rfl rfl rfl ?_ | refine yA rfl rfl rfl rfl ?_ | refine zP rfl rfl rfl rfl rfl rfl rfl rfl rfl ?_ | refine yO.nil ?_))
  refine FW.ret ⟨.inl rfl, .sh (.cons (xW rfl rfl rfl rfl rfl rfl (by decide)) (.cons (.tmp 5 rfl rfl) .nil)) ?_ rfl⟩
  simp [zcM.raw, zbe]; rfl
 | true =>
  have hEf : E = 0 := by rw [← hE]; unfold zct; rw [if_pos hd]
  subst hEf
  have hRf : zfC l s = R := by rw [← hR]; unfold zac; rw [if_pos hd]
  rw [show wM l true = .smap (Ye l l.length) from rfl]
  have hDm := Vt.1 hd
  have hwk := zaO (l := l) (i := l.length) (Nat.le_refl _) hin
  have hlk := zgI l l.length
  have hiw := fun a b => zhk (l := l) (a := a) (b := b)
  generalize Ye l l.length = W at hwk hlk
  obtain ⟨n, hn⟩ : ∃ n, l.length = n := ⟨_, rfl⟩
  have hstep := fun i (hi : i < l.length) => zcG (l := l) hi
  rw [hn] at hl hlk hiw hstep
  (repeat (first | refine FW.seq ?_ | refine FW.region ?_ | refine FW.skip ?_ | refine FW.condF rfl ?_ | refine zd.nil ?_ | refine yu rfl rfl rfl rfl rfl rfl rfl ?_ | refine za rfl rfl rfl ?_ | refine zb rfl rfl rfl ?_ | refine yv rfl rfl rfl rfl rfl ?_ | refine xd rfl rfl rfl ?_ | refine yA rfl rfl rfl rfl ?_ | refine zP rfl rfl rfl rfl rfl rfl rfl rfl rfl ?_ | refine yO.nil ?_ | refine yO.one rfl rfl rfl rfl rfl ?_))
  refine FW.join (fun _ : Unit => ⟨[(1, .bool s), (2, .ptr 101 0 0 0), (4, .ptr 102 0 0 0), (6, .smap W), (8, .ptr 103 0 0 0)], [(101, ⟨0, .own, 23, 1, [[.list 8 (l.map OpV.fv)]]⟩), (102, ⟨0, .own, 32, 5, [[.int .i64 0, .int .i64 0, .int .i64 0, .nil, .nil]]⟩), (103, ⟨0, .own, 32, 5, [[.int .i64 (cOf s), .int .i64 0, .int .i64 0, .nil, .nil]]⟩)]⟩) (fun _ => True) ?_ (fun _ _ => ?_)
  ·refine FW.cond rfl (fun h => ?_) (fun h => ?_)
   ·subst h
    (repeat (first | refine FW.region ?_ | refine zd.nil ?_ | refine xz rfl rfl rfl rfl rfl rfl rfl rfl rfl ?_ | refine zi rfl rfl rfl rfl rfl rfl (by decide) rfl rfl ?_))
    exact ⟨rfl, (), trivial, (FLe.cv [⟨101, some 2, 0 + 1, ⟨0, .own, 23, 1, [[.list 8 (l.map OpV.fv)]]⟩⟩, ⟨102, some 4, 0 + 1, ⟨0, .own, 32, 5, [[.int .i64 0, .int .i64 0, .int .i64 0, .nil, .nil]]⟩⟩, ⟨103, some 8, 0 + 1, ⟨0, .own, 32, 5, [[.int .i64 (cOf true), .int .i64 0, .int .i64 0, .nil, .nil]]⟩⟩] (by repeat (first | exact .nil | refine .old rfl (by decide) rfl ?_)) (by repeat (first | exact .nil | refine .cons (.plain rfl rfl rfl) ?_ | refine .cons (.ptr rfl (.head _) rfl) ?_ | refine .cons (.ptr rfl (.tail _ (.head _)) rfl) ?_ | refine .cons (.ptr rfl (.tail _ (.tail _ (.head _))) rfl) ?_)))⟩
   ·subst h
    (repeat (first | refine FW.skip ?_))
    exact ⟨rfl, (), trivial, (FLe.cv [⟨101, some 2, 0 + 1, ⟨0, .own, 23, 1, [[.list 8 (l.map OpV.fv)]]⟩⟩, ⟨102, some 4, 0 + 1, ⟨0, .own, 32, 5, [[.int .i64 0, .int .i64 0, .int .i64 0, .nil, .nil]]⟩⟩, ⟨103, some 8, 0 + 1, ⟨0, .own, 32, 5, [[.int .i64 (cOf false), .int .i64 0, .int .i64 0, .nil, .nil]]⟩⟩] (by repeat (first | exact .nil | refine .old rfl (by decide) rfl ?_)) (by repeat (first | exact .nil | refine .cons (.plain rfl rfl rfl) ?_ | refine .cons (.ptr rfl (.head _) rfl) ?_ | refine .cons (.ptr rfl (.tail _ (.head _)) rfl) ?_ | refine .cons (.ptr rfl (.tail _ (.tail _ (.head _))) rfl) ?_)))⟩
  (repeat (first | refine FW.seq ?_ | refine FW.region ?_ | refine FW.block ?_ | refine zd.nil ?_ | refine zm rfl rfl rfl rfl rfl (by simp; done) rfl rfl rfl rfl rfl ?_ | refine zb rfl rfl rfl ?_ | refine zg rfl rfl (by first | exact List.length_map _ | rfl | (simp; done)) rfl rfl ?_))
  rw [hn]
  refine FW.loop (fun i : Nat => ⟨[(1, .bool s), (2, .ptr 101 0 0 0), (4, .ptr 102 0 0 0), (6, .smap W), (8, .ptr 103 0 0 0), (31, .list 8 (l.map OpV.fv)), (32, .int .i64 n), (33, .int .i64 i)], [(101, ⟨0, .own, 23, 1, [[.list 8 (l.map OpV.fv)]]⟩), (102, ⟨0, .own, 32, 5, [[.int .i64 0, .int .i64 0, .int .i64 0, .nil, .nil]]⟩), (103, ⟨0, .own, 32, 5, [[.int .i64 (cOf s), .int .i64 0, .int .i64 0, .nil, .nil]]⟩)]⟩) (fun i => i ≤ n ∧ Yl (zaf l) (n - i) i = YA l) (fun i => n - i) 0 ⟨Nat.zero_le _, by unfold YA; rw [hn, Nat.sub_zero]⟩ ?_ ?_
  ·show FLe _ ⟨[(1, .bool s), (2, .ptr 101 0 0 0), (4, .ptr 102 0 0 0), (6, .smap W), (8, .ptr 103 0 0 0), (31, .list 8 (l.map OpV.fv)), (32, .int .i64 n), (33, .int .i64 0)], [(101, ⟨0, .own, 23, 1, [[.list 8 (l.map OpV.fv)]]⟩), (102, ⟨0, .own, 32, 5, [[.int .i64 0, .int .i64 0, .int .i64 0, .nil, .nil]]⟩), (103, ⟨0, .own, 32, 5, [[.int .i64 (cOf s), .int .i64 0, .int .i64 0, .nil, .nil]]⟩)]⟩
   exact (FLe.cv [⟨101, some 101, 0, ⟨0, .own, 23, 1, [[.list 8 (l.map OpV.fv)]]⟩⟩, ⟨102, some 102, 0, ⟨0, .own, 32, 5, [[.int .i64 0, .int .i64 0, .int .i64 0, .nil, .nil]]⟩⟩, ⟨103, some 103, 0, ⟨0, .own, 32, 5, [[.int .i64 (cOf s), .int .i64 0, .int .i64 0, .nil, .nil]]⟩⟩] (by repeat (first | exact .nil | refine .old rfl (by decide) rfl ?_)) (by repeat (first | exact .nil | refine .cons (.plain rfl rfl rfl) ?_ | refine .cons (.ptr rfl (.head _) rfl) ?_ | refine .cons (.ptr rfl (.tail _ (.head _)) rfl) ?_ | refine .cons (.ptr rfl (.tail _ (.tail _ (.head _))) rfl) ?_)))
  rintro i ⟨hi, hth⟩
  (repeat (first | refine FW.seq ?_ | refine FW.region ?_ | refine zd.nil ?_ | refine zN rfl rfl rfl rfl ?_))
  refine FW.cond rfl (fun hc => ?_) (fun hc => ?_)
  ·have hlt : i < n := by simpa using hc
   clear hc
   have hlt2 : i < l.length := by omega
   have ho := hin _ (zI hlt2)
   rw [hstep i hlt] at hth
   have hkd := hDm.kind i hlt2
   have hkf := zhK ho.2.2.1 ho.2.2.2.2.1
   have htb : zaf l i = (zV (nth l i) && decide ((nth l i).res ≠ 0) && !(zcI l n (nth l i).key (nth l i).res).isSome) := by unfold zaf; rw [hiw]
   have hlk := hlk (nth l i).key (nth l i).res
   obtain ⟨o, hoo⟩ : ∃ o, nth l i = o := ⟨_, rfl⟩
   rw [hoo] at hkd hkf htb hlk
   have hic : zV o = o.done := by unfold zV; rcases hkd with e | e <;> simp [e]
   rw [hic] at htb
   (repeat (first | refine FW.seq ?_ | refine FW.region ?_ | refine FW.block ?_ | refine FW.skip ?_ | refine zd.nil ?_ | refine yu rfl rfl rfl rfl rfl rfl rfl ?_ | refine za rfl rfl rfl ?_ | refine zm rfl rfl rfl rfl rfl (by first | (simp; omega) | (simp; done)) (by first | exact zc (by omega) | rfl) rfl rfl rfl rfl ?_ | refine yG rfl rfl rfl (by decide) (by first | (simp; omega) | (simp; done)) (by first | exact zc (by omega) | rfl) rfl rfl rfl ?_ | refine zb rfl rfl rfl ?_ | refine yA rfl rfl rfl rfl ?_ | refine zP rfl rfl rfl rfl rfl rfl rfl rfl rfl ?_ | refine zi rfl rfl rfl rfl rfl rfl (by decide) rfl rfl ?_ | refine zh rfl rfl rfl rfl rfl rfl (by first | (simp; omega) | (simp; done)) rfl rfl ?_ | refine yO.nil ?_ | refine yO.one rfl rfl rfl rfl rfl ?_))
   rw [hoo]
   skip
   refine zg2 (e := 3) zd3 hwk hkf hlk rfl rfl rfl rfl rfl rfl rfl ?_
   (repeat (first | refine FW.seq ?_ | refine FW.region ?_ | refine zd.nil ?_ | refine za rfl rfl rfl ?_ | refine zm rfl rfl rfl rfl rfl (by simp; done) rfl rfl rfl rfl rfl ?_ | refine zb rfl rfl rfl ?_ | refine yv rfl rfl rfl rfl rfl ?_ | refine zi rfl rfl rfl rfl rfl rfl (by decide) rfl rfl ?_))
   cases hdn : o.done with
   | false =>
    rw [hdn, Bool.false_and, Bool.false_and] at htb
    rw [htb, if_neg (by decide)] at hth
    (repeat (first | refine FW.region ?_ | refine FW.skip ?_ | refine FW.condF rfl ?_ | refine zd.nil ?_ | refine zb rfl rfl rfl ?_ | refine zn rfl rfl rfl rfl ?_ | refine zw rfl rfl (by omega) rfl rfl ?_ | refine zK rfl rfl ⟨_, _, rfl, rfl, rfl⟩ ?_))
    exact ⟨i + 1, ⟨by omega, hth⟩, by omega, (FLe.cv [⟨101, some 101, 0, ⟨0, .own, 23, 1, [[.list 8 (l.map OpV.fv)]]⟩⟩, ⟨102, some 102, 0, ⟨0, .own, 32, 5, [[.int .i64 0, .int .i64 0, .int .i64 0, .nil, .nil]]⟩⟩, ⟨103, some 103, 0, ⟨0, .own, 32, 5, [[.int .i64 (cOf s), .int .i64 0, .int .i64 0, .nil, .nil]]⟩⟩] (by repeat (first | exact .nil | refine .old rfl (by decide) rfl ?_)) (by repeat (first | exact .nil | refine .cons (.plain rfl rfl rfl) ?_ | refine .cons (.ptr rfl (.head _) rfl) ?_ | refine .cons (.ptr rfl (.tail _ (.head _)) rfl) ?_ | refine .cons (.ptr rfl (.tail _ (.tail _ (.head _))) rfl) ?_)))⟩
   | true =>
    rw [hdn, Bool.true_and] at htb
    (repeat (first | refine zb rfl rfl rfl ?_ | refine zu rfl rfl rfl rfl ?_ | refine zi rfl rfl rfl rfl rfl rfl (by decide) rfl ⟨_, _, rfl, rfl, rfl⟩ ?_ | refine zm rfl rfl rfl rfl rfl (by simp; done) rfl rfl rfl rfl ⟨_, _, rfl, rfl, rfl⟩ ?_ | refine Za rfl rfl rfl ⟨_, _, rfl, rfl, rfl⟩ ?_))
    refine zO (fun h1 => ?_) (fun h1 => ?_)
    ·have h1' : o.res ≠ 0 := by simpa using h1
     rw [decide_eq_true h1', Bool.true_and] at htb
     (repeat (first | refine zd.nil ?_ | refine zu rfl rfl rfl rfl ?_ | refine zb rfl rfl ⟨_, _, rfl, rfl, rfl⟩ ?_ | refine xd rfl rfl ⟨_, _, rfl, rfl, rfl⟩ ?_))
     cases hws : (zcI l n o.key o.res).isSome with
     | true =>
      rw [hws] at htb
      rw [htb, if_neg (by decide)] at hth
      (repeat (first | refine FW.region ?_ | refine FW.skip ?_ | refine FW.condF rfl ?_ | refine zd.nil ?_ | refine zb rfl rfl rfl ?_ | refine zw rfl rfl (by omega) rfl rfl ?_))
      exact ⟨i + 1, ⟨by omega, hth⟩, by omega, (FLe.cv [⟨101, some 101, 0, ⟨0, .own, 23, 1, [[.list 8 (l.map OpV.fv)]]⟩⟩, ⟨102, some 102, 0, ⟨0, .own, 32, 5, [[.int .i64 0, .int .i64 0, .int .i64 0, .nil, .nil]]⟩⟩, ⟨103, some 103, 0, ⟨0, .own, 32, 5, [[.int .i64 (cOf s), .int .i64 0, .int .i64 0, .nil, .nil]]⟩⟩] (by repeat (first | exact .nil | refine .old rfl (by decide) rfl ?_)) (by repeat (first | exact .nil | refine .cons (.plain rfl rfl rfl) ?_ | refine .cons (.ptr rfl (.head _) rfl) ?_ | refine .cons (.ptr rfl (.tail _ (.head _)) rfl) ?_ | refine .cons (.ptr rfl (.tail _ (.tail _ (.head _))) rfl) ?_)))⟩
     | false =>
      rw [hws] at htb
      rw [htb, if_pos (by decide)] at hth
      have hRR : R = ⟨cOf s, 2, o.key, [(i : Int)], []⟩ := by rw [← hRf]; unfold zfC; rw [← hth]; dsimp only; rw [hoo]
      subst hRR
      (repeat (first | refine FW.seq ?_ | refine FW.condT rfl ?_ | refine FW.draw ?_ | refine xq rfl rfl rfl rfl rfl (by simp; done) rfl rfl rfl rfl rfl ?_ | refine zD rfl rfl rfl ?_ | refine yT rfl rfl rfl rfl rfl rfl (by decide) rfl rfl ?_))
      refine zfd (es := [zp (i : Int)]) rfl rfl rfl (by refine xJ.int rfl rfl ?_; exact xJ.nil) rfl rfl rfl rfl rfl ?_
      (repeat (first | refine zL.nil ?_ | refine zcr rfl rfl rfl rfl rfl rfl rfl rfl rfl ?_ | refine yT rfl rfl rfl rfl rfl rfl (by decide) rfl rfl ?_))
      refine ⟨by kernel_rfl, ?_⟩
      (repeat (first | refine FW.seq ?_ | refine FW.region ?_ | refine zd.nil ?_ | refine za rfl rfl rfl ?_ | refine yL rfl rfl rfl (by decide) rfl rfl (by simp; done) rfl rfl rfl rfl ?_ | refine zP rfl rfl rfl rfl rfl rfl rfl rfl rfl ?_))
      refine FW.ret ⟨.inl rfl, .sh (.cons (xW rfl rfl rfl rfl rfl rfl (by decide)) (.cons (.tmp 5 rfl rfl) .nil)) ?_ rfl⟩
      rw [zjT]; rfl
    ·have h1' : ¬ o.res ≠ 0 := by simpa using h1
     rw [decide_eq_false h1', Bool.false_and] at htb
     rw [htb, if_neg (by decide)] at hth
     (repeat (first | refine FW.region ?_ | refine FW.skip ?_ | refine FW.condF rfl ?_ | refine zd.nil ?_ | refine zb rfl rfl rfl ?_ | refine zn rfl rfl rfl rfl ?_ | refine zw rfl rfl (by omega) rfl rfl ?_ | refine zK rfl rfl ⟨_, _, rfl, rfl, rfl⟩ ?_))
     exact ⟨i + 1, ⟨by omega, hth⟩, by omega, (FLe.cv [⟨101, some 101, 0, ⟨0, .own, 23, 1, [[.list 8 (l.map OpV.fv)]]⟩⟩, ⟨102, some 102, 0, ⟨0, .own, 32, 5, [[.int .i64 0, .int .i64 0, .int .i64 0, .nil, .nil]]⟩⟩, ⟨103, some 103, 0, ⟨0, .own, 32, 5, [[.int .i64 (cOf s), .int .i64 0, .int .i64 0, .nil, .nil]]⟩⟩] (by repeat (first | exact .nil | refine .old rfl (by decide) rfl ?_)) (by repeat (first | exact .nil | refine .cons (.plain rfl rfl rfl) ?_ | refine .cons (.ptr rfl (.head _) rfl) ?_ | refine .cons (.ptr rfl (.tail _ (.head _)) rfl) ?_ | refine .cons (.ptr rfl (.tail _ (.tail _ (.head _))) rfl) ?_)))⟩
  ·obtain rfl : i = n := by simp at hc; omega
   clear hc hstep hlk hwk hiw hi
   obtain ⟨n, hni⟩ : ∃ n, n = i := ⟨_, rfl⟩
   rw [← hni] at hl hn hth ⊢
   rw [Nat.sub_self] at hth
   have hth : YA l = none := hth.symm
   have hes := (zeE l s (by omega)).sh_of_ow
   have hel := Vb l s l.length
   have hin2 := zee l s
   obtain ⟨X, hX⟩ : ∃ X, yj l s = X := ⟨_, rfl⟩
   have hXl : X.length ≤ 576 := by
    rw [← hX]
    refine Nat.le_trans hel ?_
    exact Nat.le_trans (Nat.mul_le_mul (Nat.mul_le_mul (Nat.le_refl 4) (by omega : l.length ≤ 12)) (by omega : l.length ≤ 12)) (by decide)
   have hcy := fun h => zf9 l s (by omega) h
   have hpl : (prs X).length = X.length := by unfold prs; rw [List.length_map]
   have hcr : yH l s = xm (prs X) n := by unfold yH; rw [hX, hn]
   have hor : Ub l s = (yB n (prs X)).filter fun x => zV (nth l x.toNat) := by unfold Ub; rw [hX, hn]
   rw [hX] at hes hin2 hcy
   rw [hn] at hin2
   have hC := zbI n (prs X) hl (by omega) hin2
   rw [← hcr] at hC
   clear hel
   (repeat (first | refine FW.seq ?_ | refine FW.region ?_ | refine FW.exit ?_ | refine zm rfl rfl rfl rfl rfl (by simp; done) rfl rfl rfl rfl rfl ?_ | refine zb rfl rfl rfl ?_))
   refine xc hes (by repeat (first | exact zx.nil | refine zx.cons (by exact yI.plain rfl rfl) ?_)) rfl rfl ?_
   (repeat (first | refine FW.seq ?_ | refine FW.region ?_ | refine FW.block ?_ | refine zd.nil ?_ | refine za rfl rfl rfl ?_ | refine zb rfl rfl rfl ?_ | refine zg rfl rfl (by exact List.length_map _) rfl rfl ?_))
   refine FW.loop (fun k : Nat => ⟨[(2, .ptr 101 0 0 0), (4, .ptr 102 0 0 0), (8, .ptr 103 0 0 0), (13, .list 3 (X.map EdV.fv)), (14, .own 104 0 0 k), (72, .list 3 (X.map EdV.fv)), (73, .int .i64 X.length), (74, .int .i64 k)], [(101, ⟨0, .own, 23, 1, [[.list 8 (l.map OpV.fv)]]⟩), (102, ⟨0, .own, 32, 5, [[.int .i64 0, .int .i64 0, .int .i64 0, .nil, .nil]]⟩), (103, ⟨0, .own, 32, 5, [[.int .i64 (cOf s), .int .i64 0, .int .i64 0, .nil, .nil]]⟩), (104, ⟨0, .own, 59, 2, ((prs X).take k).map edf⟩)]⟩) (fun k => k ≤ X.length) (fun k => X.length - k) 0 (Nat.zero_le _) ?_ ?_
   ·show FLe _ ⟨[(2, .ptr 101 0 0 0), (4, .ptr 102 0 0 0), (8, .ptr 103 0 0 0), (13, .list 3 (X.map EdV.fv)), (14, .own 104 0 0 0), (72, .list 3 (X.map EdV.fv)), (73, .int .i64 X.length), (74, .int .i64 0)], [(101, ⟨0, .own, 23, 1, [[.list 8 (l.map OpV.fv)]]⟩), (102, ⟨0, .own, 32, 5, [[.int .i64 0, .int .i64 0, .int .i64 0, .nil, .nil]]⟩), (103, ⟨0, .own, 32, 5, [[.int .i64 (cOf s), .int .i64 0, .int .i64 0, .nil, .nil]]⟩), (104, ⟨0, .own, 59, 2, []⟩)]⟩
    exact (FLe.cv [⟨101, some 101, 0, ⟨0, .own, 23, 1, [[.list 8 (l.map OpV.fv)]]⟩⟩, ⟨102, some 102, 0, ⟨0, .own, 32, 5, [[.int .i64 0, .int .i64 0, .int .i64 0, .nil, .nil]]⟩⟩, ⟨103, some 103, 0, ⟨0, .own, 32, 5, [[.int .i64 (cOf s), .int .i64 0, .int .i64 0, .nil, .nil]]⟩⟩, ⟨104, none, 0, ⟨0, .own, 59, 2, []⟩⟩] (by repeat (first | exact .nil | refine .old rfl (by decide) rfl ?_ | refine .new ?_)) (by repeat (first | exact .nil | refine .cons (.plain rfl rfl rfl) ?_ | refine .cons (.ptr rfl (.head _) rfl) ?_ | refine .cons (.ptr rfl (.tail _ (.head _)) rfl) ?_ | refine .cons (.ptr rfl (.tail _ (.tail _ (.head _))) rfl) ?_ | refine .cons (.nil rfl (.tail _ (.tail _ (.tail _ (.head _)))) rfl) ?_)))
   intro k hk
   have hkl : ((prs X).take k).length = k := by rw [List.length_take]; omega
   have hks : ∀ h : k < X.length, (prs X).take (k + 1) = (prs X).take k ++ [((nth X k).1, (nth X k).2.1)] := fun h => by
    rw [List.take_succ_eq_append_getElem (by omega)]
    congr 2
    rw [nth_eq h]
    simp [prs]
   have hlast : k = X.length → (prs X).take k = prs X := fun e => by rw [e, ← hpl, List.take_length]
   generalize (prs X).take k = Z at hkl hks hlast
   subst hkl
   (repeat (first | refine FW.seq ?_ | refine FW.region ?_ | refine zd.nil ?_ | refine zN rfl rfl rfl rfl ?_))
   refine FW.cond rfl (fun hc => ?_) (fun hc => ?_)
   ·have hlt : Z.length < X.length := by simpa using hc
    clear hc hlast
    have hks := hks hlt
    obtain ⟨⟨a, b, w⟩, he⟩ : ∃ e, nth X Z.length = e := ⟨_, rfl⟩
    rw [he] at hks
    (repeat (first | refine FW.seq ?_ | refine FW.region ?_ | refine FW.block ?_ | refine FW.skip ?_ | refine zd.nil ?_ | refine yu rfl rfl rfl rfl rfl rfl rfl ?_ | refine za rfl rfl rfl ?_ | refine zm rfl rfl rfl rfl rfl (by first | (simp; omega) | (simp; done)) (by first | exact zc (by omega) | rfl) rfl rfl rfl rfl ?_ | refine yG rfl rfl rfl (by decide) (by first | (simp; omega) | (simp; done)) (by first | exact zc (by omega) | rfl) rfl rfl rfl ?_ | refine zb rfl rfl rfl ?_ | refine zaA rfl rfl rfl rfl rfl rfl rfl rfl rfl ?_ | refine zP rfl rfl rfl rfl rfl rfl rfl rfl rfl ?_ | refine zi rfl rfl rfl rfl rfl rfl (by decide) rfl rfl ?_ | refine zh rfl rfl rfl rfl rfl rfl (by first | (simp; omega) | (simp; done)) rfl rfl ?_ | refine xn rfl rfl rfl rfl rfl rfl rfl rfl rfl rfl ?_ | refine zw rfl rfl (by omega) rfl rfl ?_ | refine xa rfl rfl (by first | exact (List.length_map _).symm | rfl | (simp; done) | (simp; omega)) rfl rfl rfl (by decide) (by exact xi.own rfl rfl (by decide) (by first | exact List.length_map _ | exact (List.length_map _).symm | exact List.length_replicate | rfl | (simp; done) | omega | (simp; omega))) (by first | (simp; omega) | (simp; done)) (by first | (simp; omega) | (simp; done)) rfl rfl rfl ?_))
    rw [he]
    skip
    refine ⟨Z.length + 1, by omega, by omega, ?_⟩
    rw [hks, List.map_append]
    exact (FLe.cv [⟨101, some 101, 0, ⟨0, .own, 23, 1, [[.list 8 (l.map OpV.fv)]]⟩⟩, ⟨102, some 102, 0, ⟨0, .own, 32, 5, [[.int .i64 0, .int .i64 0, .int .i64 0, .nil, .nil]]⟩⟩, ⟨103, some 103, 0, ⟨0, .own, 32, 5, [[.int .i64 (cOf s), .int .i64 0, .int .i64 0, .nil, .nil]]⟩⟩, ⟨104, some 85, 0 + 1, ⟨0, .own, 59, 2, Z.map edf ++ [(a, b)].map edf⟩⟩] (by repeat (first | exact .nil | refine .old rfl (by decide) (by first | rfl | (simp; done)) ?_)) (by repeat (first | exact .nil | refine .cons (.plain rfl rfl (by first | rfl | (simp; done))) ?_ | refine .cons (.ptr rfl (.head _) rfl) ?_ | refine .cons (.ptr rfl (.tail _ (.head _)) rfl) ?_ | refine .cons (.ptr rfl (.tail _ (.tail _ (.head _))) rfl) ?_ | refine .cons (.own rfl (.tail _ (.tail _ (.tail _ (.head _)))) rfl (by first | rfl | (simp; done))) ?_)))
   ·have hZ := hlast (by simp at hc; omega)
    subst hZ
    clear hc hlast hks hk
    (repeat (first | refine FW.seq ?_ | refine FW.region ?_ | refine FW.exit ?_ | refine zm rfl rfl rfl rfl rfl (by simp; done) rfl rfl rfl rfl rfl ?_ | refine zb rfl rfl rfl ?_ | refine zg rfl rfl (by first | exact List.length_map _ | rfl | (simp; done)) rfl rfl ?_))
    rw [hn]
    refine zd.le ?_ (FLe.share 14 rfl rfl (by simp))
    skip
    refine xc hC (by repeat (first | exact zx.nil | refine zx.cons (by first | exact yI.plain rfl rfl | exact yI.own rfl rfl (by decide) (by first | exact (fun _ => rfl) | (intro h; cases h)) (by first | rfl | (simp; done) | (congr 1; omega) | (simp; omega) | (simp [List.take_of_length_le]; done) | (refine congrArg (FV.int .i64) ?_; omega))) ?_)) rfl rfl ?_
    (repeat (first | refine FW.seq ?_ | refine FW.region ?_ | refine zd.nil ?_ | refine za rfl rfl rfl ?_ | refine zb rfl rfl rfl ?_))
    cases hcc : yH l s with
    | nil =>
     have hRR : R = ⟨cOf s, 0, 0, Ub l s, []⟩ := by rw [← hRf]; unfold zfC; rw [hth]; dsimp only; rw [if_pos hcc]
     rw [show zjg (([] : List Int).map zp) = .nil from rfl]
     have hO := (Xp hin2 (by rw [← hcr]; exact hcc)).2
     have hTL := zfH n (prs X) (by omega) (by omega) hin2 hO.len
     subst hRR
     rw [hor]
     generalize yB n (prs X) = T at hO hTL
     have hTl := hO.len
     have hkp : (T.filter fun x => zV (nth l x.toNat)) = xu (fun x => !zV (nth l x.toNat)) T := by unfold xu; simp
     rw [hkp]
     have hD := WR 1 T 20 [zf4 l] (fun x => !zV (nth l x.toNat)) (by omega) (fun x hx => by
      have hr := hO.rng x hx
      have := zcY l x.toNat (by omega)
      rw [show ((x.toNat : Nat) : Int) = x by omega] at this
      exact this)
     rw [hTl] at hD
     have hKl := XM (fun x => !zV (nth l x.toNat)) T T.length
     rw [List.take_length, hTl] at hKl
     generalize xu (fun x => !zV (nth l x.toNat)) T = K at hD hKl
     clear hRf hkp hcr hor hcy hC hes
     (repeat (first | refine FW.seq ?_ | refine FW.region ?_ | refine FW.skip ?_ | refine FW.condF rfl ?_ | refine zd.nil ?_ | refine zm rfl rfl rfl rfl rfl (by simp; done) rfl rfl rfl rfl rfl ?_ | refine zb rfl rfl rfl ?_ | refine zg rfl rfl (by first | exact List.length_map _ | rfl | (simp; done)) rfl rfl ?_ | refine zcz rfl rfl rfl rfl rfl ?_))
     rw [hn]
     refine Zx hTL [(4000, 105)] rfl zH.nil rfl rfl rfl rfl rfl rfl ?_
     rintro _ ob' ⟨rfl, h4⟩
     refine xf.one [(105, ⟨1, .own, 3, 1, T.map zp⟩)] (.wrap .tup [.own 105 1 0 n, .bool true]) rfl (by show [(105, zt.ren _ (look {} ob' 4000))] = _; rw [h4]; rfl) ?_
     clear h4 ob' hTL
     (repeat (first | refine zb rfl rfl rfl ?_))
     refine Up rfl rfl rfl rfl rfl ?_
     refine Up rfl rfl rfl rfl rfl ?_
     (repeat (first | refine FW.seq ?_ | refine FW.region ?_ | refine zd.nil ?_ | refine za rfl rfl rfl ?_ | refine zb rfl rfl rfl ?_))
     refine zd.le ?_ (FLe.shareP 2 rfl rfl)
     (repeat (first | refine YT rfl rfl rfl rfl ?_))
     refine Zx hD [(5000, 105)] rfl (zH.cons rfl rfl rfl zH.nil) rfl rfl rfl rfl rfl rfl ?_
     rintro _ ob' ⟨rfl, h4⟩
     obtain ⟨Ze, hZe⟩ : ∃ Ze, (K ++ List.replicate (n - K.length) 0).map zp = Ze := ⟨_, rfl⟩
     have hZt : (Ze.drop 0).take K.length = K.map zp := by rw [← hZe, List.drop_zero, List.map_append, List.take_left' (List.length_map _)]
     rw [hZe] at h4
     refine xf.one [(105, ⟨1, .own, 3, 1, Ze⟩)] (.own 105 1 0 K.length) rfl (by show [(105, zt.ren _ (look {} ob' 5000))] = _; rw [h4]; rfl) ?_
     clear h4 ob' hD
     refine zd.le ?_ (FLe.shut (i := 105) rfl)
     refine zd.le ?_ (FLe.list (d := 117) (i := 105) (f := .list 1 (K.map zp)) rfl rfl (by rw [hZt]))
     (repeat (first | refine FW.seq ?_ | refine FW.region ?_ | refine zd.nil ?_ | refine za rfl rfl rfl ?_ | refine yL rfl rfl rfl (by decide) rfl rfl (by simp; done) rfl rfl rfl rfl ?_ | refine xz rfl rfl rfl rfl rfl rfl rfl rfl rfl ?_ | refine zP rfl rfl rfl rfl rfl rfl rfl rfl rfl ?_ | refine zi rfl rfl rfl rfl rfl rfl (by decide) rfl rfl ?_))
     refine FW.ret ⟨.inl rfl, .sh (.cons (xW rfl rfl rfl rfl rfl rfl (by decide)) (.cons (.tmp 5 rfl rfl) .nil)) ?_ rfl⟩
     rw [zjS]; rfl
    | cons c0 cs =>
     have hRR : R = ⟨cOf s, 5, (nth l (nth (yH l s) 0).toNat).key, [], WD l s (yH l s) (yH l s).length⟩ := by rw [← hRf]; unfold zfC; rw [hth]; dsimp only; rw [if_neg (by rw [hcc]; simp)]
     rw [show zjg ((c0 :: cs).map zp) = .list 1 ((c0 :: cs).map zp) from rfl]
     have hne : yH l s ≠ [] := by rw [hcc]; simp
     obtain ⟨a, b, ha, _, hal, _, _⟩ := zf7 hne (i := 0) (by rw [hcc]; simp)
     have hcl : (yH l s).length ≤ n := by rw [hcr, ← XE hin2]; exact Va hin2 (Nat.le_refl n)
     have hcy := (hcy hne (by omega)).sh_of_ow
     rw [ha, Int.toNat_natCast] at hRR
     subst hRR
     obtain ⟨Y, hY⟩ : ∃ Y, WD l s (yH l s) (yH l s).length = Y := ⟨_, rfl⟩
     rw [hY] at hcy ⊢
     have hc0 : 0 < (yH l s).length := by rw [hcc]; simp
     rw [← hcc]
     obtain ⟨C, hCC⟩ : ∃ C, yH l s = C := ⟨_, rfl⟩
     rw [hCC] at hcy ha hc0 ⊢
     clear hRf hcr hor hC hes hY hcc hcl
     skip
     refine zg3 rfl rfl rfl (by intro e; rw [List.map_eq_nil_iff] at e; subst e; cases hc0) rfl rfl ?_
     (repeat (first | refine FW.seq ?_ | refine FW.condT rfl ?_ | refine zd.nil ?_ | refine FW.draw ?_ | refine zR rfl rfl rfl (by first | (simp; omega) | (simp; done)) (by first | exact zc (by omega) | rfl) rfl rfl rfl rfl ?_ | refine xq rfl rfl rfl rfl rfl (by first | (simp; omega) | (simp; done)) (by first | exact zc (by omega) | rfl) rfl rfl rfl rfl ?_ | refine zD rfl rfl rfl ?_ | refine zJ rfl rfl rfl rfl rfl rfl (by first | (simp; omega) | (simp; done)) rfl rfl ?_))
     rw [ha]
     (repeat (first | refine zR rfl rfl rfl (by simp; omega) (by first | exact zc (by omega) | rfl) rfl rfl rfl rfl ?_ | refine zD rfl rfl rfl ?_ | refine zW rfl rfl rfl rfl rfl rfl rfl ?_ | refine zJ rfl rfl rfl rfl rfl rfl (by simp; omega) rfl rfl ?_))
     refine zhZ hcy (by repeat (first | exact zx.nil | refine zx.cons (by exact yI.plain rfl rfl) ?_)) rfl rfl ?_
     (repeat (first | refine zL.nil ?_ | refine zcr rfl rfl rfl rfl rfl rfl rfl rfl rfl ?_ | refine yT rfl rfl rfl rfl rfl rfl (by decide) rfl rfl ?_))
     refine ⟨by kernel_rfl, ?_⟩
     (repeat (first | refine FW.seq ?_ | refine FW.region ?_ | refine zd.nil ?_ | refine za rfl rfl rfl ?_ | refine yL rfl rfl rfl (by decide) rfl rfl (by simp; done) rfl rfl rfl rfl ?_ | refine zP rfl rfl rfl rfl rfl rfl rfl rfl rfl ?_))
     refine FW.ret ⟨.inl rfl, .sh (.cons (xW rfl rfl rfl rfl rfl rfl (by decide)) (.cons (.tmp 5 rfl rfl) .nil)) ?_ rfl⟩
     rw [zjU]; rfl
end Go.Proofs.Ytokmanfcndelfaa
