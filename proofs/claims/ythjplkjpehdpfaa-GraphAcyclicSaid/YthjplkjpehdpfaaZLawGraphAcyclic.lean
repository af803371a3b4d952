/-
  simprooflaw03.GraphAcyclic answers true for every input (walked on plain values).
-/
import Derived.Test.YthjplkjpehdpfaaZLawGraphComponents
import Derived.Test.YthjplkjpehdpfaaZFmEqArr
import Derived.Test.YthjplkjpehdpfaaZFmResp
namespace Go.Proofs.Ythjplkjpehdpfaa
set_option linter.unusedVariables false
open Go.RowKit

theorem zcR (x : Nat × Nat) (a b : Nat) : zcG Try.prog 34 (edf x) [.int .i64 (a : Int), .int .i64 (b : Int)] (decide (x = (a, b))) := by
 have h := zbU (x.1 : Int) (x.2 : Int) a b
 rw [show decide (((x.1 : Nat) : Int) = (a : Int) ∧ ((x.2 : Nat) : Int) = (b : Int)) = decide (x = (a, b)) from decide_eq_decide.2 ⟨fun ⟨p, q⟩ => by obtain ⟨u, v⟩ := x; dsimp only at p q; rw [show u = a by omega, show v = b by omega], fun e => by rw [e]; exact ⟨rfl, rfl⟩⟩] at h
 exact h
theorem zd8 {n : Nat} {E : List (Nat × Nat)} (h : InN n E) : (ya E n).length ≤ n := by
 rw [← Yg h]
 exact Vw h (Nat.le_refl n)
theorem zfk {k : Nat} {E : List (Nat × Nat)} (hB : InN k E) (hk : k ≤ 300) (hE : E.length ≤ 100000) {c : List Int} (hc : ya E k = c) : ∃ (O : List Int) (ok : Bool), yq Try.prog 14 [.int .i64 k, .list 2 (E.map edf)] .sh (.tup [.list 1 (O.map zm), .bool ok]) ∧ ((c = [] ∧ ok = true ∧ Ord k E O) ∨ (c ≠ [] ∧ ok = false)) := by
 have hT := Vp k E hk hE hB
 by_cases h0 : c = []
 ·obtain ⟨t1, t2⟩ := zaO hB (hc.trans h0)
  rw [t1] at hT
  exact ⟨_, true, hT, .inl ⟨h0, rfl, t2⟩⟩
 ·rw [zfz hB (by rw [hc]; exact h0)] at hT
  exact ⟨[], false, hT, .inr ⟨h0, rfl⟩⟩
def za3 (n : Nat) (m : Nat) (E : List (Nat × Nat)) (i : Nat) : Bool := decide (m = n) && (E.take i).all fun e => decide (e.1 ≠ e.2)
theorem zdK (n m : Nat) (E : List (Nat × Nat)) (i : Nat) (h : i < E.length) : za3 n m E (i + 1) = (za3 n m E i && decide ((nth E i).1 ≠ (nth E i).2)) := by
 unfold za3
 rw [List.take_succ_eq_append_getElem h, List.all_append, nth_eq h]
 simp [Bool.and_assoc]
theorem zey (n m : Nat) (E : List (Nat × Nat)) : za3 n m E E.length = true ↔ m = n ∧ ∀ e ∈ E, e.1 ≠ e.2 := by
 unfold za3
 rw [List.take_length]
 simp
def zeh (E : List (Nat × Nat)) (x : Nat × Nat) (i : Nat) : Bool := (E.take i).any fun e => decide (e = x)
theorem zda (E : List (Nat × Nat)) (x : Nat × Nat) (i : Nat) (h : i < E.length) : zeh E x (i + 1) = (zeh E x i || decide (nth E i = x)) := by
 unfold zeh
 rw [List.take_succ_eq_append_getElem h, List.any_append, nth_eq h]
 simp
set_option maxHeartbeats 8000000 in
theorem YI (n : Int) (l : List Int) (hn : I64 n) (hl : ∀ x ∈ l, I64 x) (hlen : l.length ≤ 9223372036854775807) : yq Try.prog 4 [.int .i64 n, .list 1 (l.map zm)] .fr (.bool true) := by
 have hsize := zdL n hn
 obtain ⟨k, hk, hk10⟩ := zbO n 10 (by decide)
 have hk' : xe n 10 = k := hk
 rw [hk'] at hsize
 have hB := zaT k l
 have hBl := UP k l
 refine yq.of_body (c := (Zf Try.prog zC zt 134)) ⟨Try.func4, rfl, Try.ntmps4, by kernel_rfl⟩ (by simp [FV.hand]) (by exact Nat.le_of_ble_eq_true rfl) rfl ?_
 change FW _ _ _ ⟨[(0, .int .i64 n), (1, .list 1 (l.map zm))], []⟩
 (repeat (first | refine FW.seq ?_ | refine FW.region ?_ | refine zd.nil ?_ | refine zc rfl rfl rfl ?_ | refine zb rfl rfl rfl ?_))
 refine yB hsize (by repeat (first | exact zA.nil | refine zA.cons (by exact xz.plain rfl rfl) ?_)) rfl rfl ?_
 (repeat (first | refine FW.seq ?_ | refine FW.region ?_ | refine zd.nil ?_ | refine zc rfl rfl rfl ?_ | refine zb rfl rfl rfl ?_))
 refine Yv (VM k l (by omega) hlen hl) (by repeat (first | exact zA.nil | refine zA.cons (by exact xz.plain rfl rfl) ?_)) (List.length_map _) rfl rfl rfl ?_
 refine zd.le ?_ (FLe.share 21 rfl rfl (by rw [List.length_map]))
 generalize ZD k l = E at hB hBl
 have hC := Xw k E (by omega) (by omega) hB
 have hP := Xu k E (by omega) (by omega) hB
 have hsi := zcv hB
 have hpl := zbW k E
 obtain ⟨c, hc⟩ : ∃ c, ya E k = c := ⟨_, rfl⟩
 have hcl := zd8 hB
 obtain ⟨P, hPe⟩ : ∃ P, xJ k E = P := ⟨_, rfl⟩
 rw [hc] at hcl hsi hC
 rw [hPe] at hsi hpl hP
 have hsg0 : za3 k P.length E 0 = decide (P.length = k) := by simp [za3]
 have hsgA := zey k P.length E
 have hsgs := zdK k P.length E
 obtain ⟨O, ok, hT, hok⟩ := zfk hB (by omega) (by omega) hc
 have hce : c ≠ [] → ∀ i, i < c.length → ∃ a b : Nat, nth c i = a ∧ nth c ((i + 1) % c.length) = b ∧ (a, b) ∈ E := fun h0 => by rw [← hc] at h0 ⊢; exact Uo hB h0
 have hcn : c ≠ [] → c.Nodup ∧ ∀ x ∈ c, nth c 0 ≤ x := fun h0 => by rw [← hc] at h0 ⊢; exact UO hB h0
 clear hc hPe
 (repeat (first | refine FW.seq ?_ | refine FW.region ?_ | refine zd.nil ?_ | refine zc rfl rfl rfl ?_ | refine zb rfl rfl rfl ?_))
 refine xf hT (by repeat (first | exact zA.nil | refine zA.cons (by exact xz.plain rfl rfl) ?_)) rfl rfl ?_
 (repeat (first | refine FW.seq ?_ | refine FW.region ?_ | refine zd.nil ?_ | refine zc rfl rfl rfl ?_ | refine zb rfl rfl rfl ?_ | refine ZF rfl rfl rfl rfl rfl ?_))
 refine xf hC (by repeat (first | exact zA.nil | refine zA.cons (by exact xz.plain rfl rfl) ?_)) rfl rfl ?_
 (repeat (first | refine FW.seq ?_ | refine FW.region ?_ | refine zd.nil ?_ | refine zc rfl rfl rfl ?_ | refine zb rfl rfl rfl ?_))
 refine xf hP (by repeat (first | exact zA.nil | refine zA.cons (by exact xz.plain rfl rfl) ?_)) rfl rfl ?_
 (repeat (first | refine FW.seq ?_ | refine FW.region ?_ | refine FW.block ?_ | refine zd.nil ?_ | refine zc rfl rfl rfl ?_ | refine zb rfl rfl rfl ?_ | refine zu rfl rfl (by exact List.length_map _) rfl rfl ?_ | refine xO rfl rfl rfl rfl ?_))
 rw [show decide ((P.length : Int) = (k : Int)) = za3 k P.length E 0 by rw [hsg0]; exact decide_eq_decide.2 (by omega)]
 refine FW.loop (fun i : Nat => ⟨[(5, .int .i64 k), (6, .list 2 (E.map edf)), (7, .list 1 (O.map zm)), (8, .bool ok), (9, .list 1 (c.map zm)), (11, .bool (za3 k P.length E i)), (12, .int .i64 i)], []⟩) (fun i => i ≤ E.length) (fun i => E.length - i) 0 (Nat.zero_le _) (FLe.conv [] (by simp) (by simp) rfl (by repeat (first | exact .nil)) (by repeat (first | exact .nil)) (by repeat (first | exact .nil | refine .cons (.plain rfl rfl rfl) ?_))) ?_
 intro i hi
 have hsgs := hsgs i
 have hsge : i = E.length → za3 k P.length E i = za3 k P.length E E.length := fun e => by rw [e]
 generalize za3 k P.length E i = g at hsgs hsge
 (repeat (first | refine FW.seq ?_ | refine FW.region ?_ | refine zd.nil ?_ | refine zb rfl rfl rfl ?_ | refine zu rfl rfl (by exact List.length_map _) rfl rfl ?_ | refine zQ rfl rfl rfl rfl ?_))
 refine FW.cond rfl (fun h => ?_) (fun h => ?_)
 ·have hlt : i < E.length := by simpa using h
  clear h hsge
  have hsgs := hsgs hlt
  obtain ⟨⟨u, v⟩, he⟩ : ∃ e, nth E i = e := ⟨_, rfl⟩
  rw [he] at hsgs
  dsimp only at hsgs
  (repeat (first | refine FW.seq ?_ | refine FW.block ?_ | refine FW.skip ?_ | refine FW.draw ?_ | refine zE rfl rfl rfl ?_))
  refine XZ (fun hg => ?_) (fun hg => ?_)
  ·rw [hg, Bool.true_and] at hsgs
   (repeat (first | refine zx.nil ?_ | refine yv rfl rfl rfl ?_ | refine Xj rfl rfl rfl rfl ?_ | refine zE rfl rfl ⟨_, _, rfl, rfl, rfl⟩ ?_ | refine yw rfl rfl rfl rfl rfl rfl (by first | (simp; omega) | (simp; done)) rfl ⟨_, _, rfl, rfl, rfl⟩ ?_ | refine Vd rfl rfl rfl rfl rfl rfl (by first | (simp; omega) | (simp; done)) rfl ⟨_, _, rfl, rfl, rfl⟩ ?_ | refine yH rfl rfl rfl (by first | (simp; omega) | (simp; done)) (by first | exact zf (by omega) | rfl) rfl rfl rfl ⟨_, _, rfl, rfl, rfl⟩ ?_ | refine zeS rfl rfl rfl ⟨_, _, rfl, rfl, rfl⟩ ?_))
   rw [he]
   skip
   refine ⟨by kernel_rfl, ?_⟩
   (repeat (first | refine FW.region ?_ | refine zd.nil ?_ | refine zc rfl rfl rfl ?_ | refine zb rfl rfl rfl ?_ | refine zB rfl rfl (by omega) rfl rfl ?_))
   refine ⟨i + 1, by omega, by omega, ?_⟩
   rw [hsgs, show decide (u ≠ v) = decide ((u : Int) ≠ (v : Int)) from decide_eq_decide.2 (by omega)]
   exact (FLe.conv [] (by simp) (by simp) rfl (by repeat (first | exact .nil)) (by repeat (first | exact .nil)) (by repeat (first | exact .nil | refine .cons (.plain rfl rfl rfl) ?_)))
  ·rw [hg, Bool.false_and] at hsgs
   (repeat (first | refine zx.nil ?_ | refine yv rfl rfl rfl ?_ | refine xC rfl rfl rfl rfl ?_ | refine VN rfl rfl ⟨_, _, rfl, rfl, rfl⟩ ?_))
   refine ⟨by kernel_rfl, ?_⟩
   (repeat (first | refine FW.region ?_ | refine zd.nil ?_ | refine zc rfl rfl rfl ?_ | refine zb rfl rfl rfl ?_ | refine zB rfl rfl (by omega) rfl rfl ?_))
   refine ⟨i + 1, by omega, by omega, ?_⟩
   rw [hsgs]
   exact (FLe.conv [] (by simp) (by simp) rfl (by repeat (first | exact .nil)) (by repeat (first | exact .nil)) (by repeat (first | exact .nil | refine .cons (.plain rfl rfl rfl) ?_)))
 ·have hie : i = E.length := by simp at h; omega
  have hsge := hsge hie
  clear h hsgs
  subst hsge
  rcases hok with ⟨rfl, rfl, hO⟩ | ⟨hcne, rfl⟩
  ·rw [show za3 k P.length E E.length = true from hsgA.2 (hsi.2 rfl)]
   have hrs := VO k E O (by omega) hB (by omega) hO
   (repeat (first | refine FW.seq ?_ | refine FW.region ?_ | refine FW.skip ?_ | refine FW.exit ?_ | refine FW.condT rfl ?_ | refine FW.condF rfl ?_ | refine zd.nil ?_ | refine zb rfl rfl rfl ?_ | refine zu rfl rfl (by exact List.length_map _) rfl rfl ?_ | refine xO rfl rfl rfl rfl ?_ | refine VS rfl rfl rfl rfl rfl ?_ | refine yj rfl rfl rfl rfl ?_ | refine zb rfl rfl ⟨_, _, rfl, rfl, rfl⟩ ?_ | refine VS rfl rfl rfl rfl ⟨_, _, rfl, rfl, rfl⟩ ?_))
   refine yB hrs (by repeat (first | exact zA.nil | refine zA.cons (by exact xz.plain rfl rfl) ?_)) rfl rfl ?_
   (repeat (first | refine zb rfl rfl rfl ?_))
   refine yB YY (by repeat (first | exact zA.nil)) rfl ⟨_, _, rfl, rfl, rfl⟩ ?_
   (repeat (first | refine zd.nil ?_ | refine zc rfl rfl rfl ?_ | refine yb rfl rfl rfl rfl ?_))
   exact FW.ret ⟨.inl rfl, yt rfl rfl rfl rfl⟩
  ·rw [show za3 k P.length E E.length = false by
    cases hx : za3 k P.length E E.length with
    | false => rfl
    | true => exact absurd (hsi.1 (hsgA.1 hx)) hcne]
   have hce := hce hcne
   obtain ⟨hcn1, hcn2⟩ := hcn hcne
   have hcpos := List.length_pos_iff.2 hcne
   (repeat (first | refine FW.seq ?_ | refine FW.region ?_ | refine FW.exit ?_ | refine zb rfl rfl rfl ?_ | refine zu rfl rfl (by exact List.length_map _) rfl rfl ?_ | refine xO rfl rfl rfl rfl ?_ | refine VS rfl rfl rfl rfl rfl ?_))
   refine xb (fun h => absurd (of_decide_eq_true h) (by rw [decide_eq_false (by omega)]; exact fun e => e rfl)) (fun h => ?_)
   (repeat (first | refine FW.seq ?_ | refine FW.region ?_ | refine FW.block ?_ | refine FW.skip ?_ | refine FW.condF rfl ?_ | refine zd.nil ?_ | refine zc rfl rfl rfl ?_ | refine zb rfl rfl rfl ?_ | refine yj rfl rfl rfl rfl ?_ | refine zb rfl rfl ⟨_, _, rfl, rfl, rfl⟩ ?_ | refine VS rfl rfl rfl rfl ⟨_, _, rfl, rfl, rfl⟩ ?_))
   refine FW.loop (fun i : Nat => ⟨[(5, .int .i64 k), (6, .list 2 (E.map edf)), (9, .list 1 (c.map zm)), (13, .int .i64 i)], []⟩) (fun i => i ≤ c.length) (fun i => c.length - i) 0 (Nat.zero_le _) (FLe.conv [] (by simp) (by simp) rfl (by repeat (first | exact .nil)) (by repeat (first | exact .nil)) (by repeat (first | exact .nil | refine .cons (.plain rfl rfl rfl) ?_))) ?_
   intro i hi
   have hce := hce i
   (repeat (first | refine FW.seq ?_ | refine FW.region ?_ | refine zd.nil ?_ | refine zb rfl rfl rfl ?_ | refine zu rfl rfl (by exact List.length_map _) rfl rfl ?_ | refine zQ rfl rfl rfl rfl ?_))
   refine FW.cond rfl (fun h => ?_) (fun h => ?_)
   ·have hlt : i < c.length := by simpa using h
    clear h
    obtain ⟨u, v, hu, hv, huv⟩ := hce hlt
    obtain ⟨m, hm⟩ : ∃ m, (i + 1) % c.length = m := ⟨_, rfl⟩
    have hml : m < c.length := by rw [← hm]; exact Nat.mod_lt _ hcpos
    have hmz : ((i : Int) + 1) % (c.length : Int) = m := by rw [← hm]; rfl
    rw [hm] at hv
    have hjA : zeh E (u, v) E.length = true := by
     unfold zeh
     rw [List.take_length, List.any_eq_true]
     exact ⟨_, huv, decide_eq_true rfl⟩
    have hxs : ∀ z ∈ c, nth c 0 ≤ z := hcn2
    have hge := hxs _ (zF hlt)
    have hno : zbl (c.drop (i + 1)) (nth c i) = false := by
     unfold zbl
     refine decide_eq_false fun hmem => ?_
     obtain ⟨q, hq, e⟩ := List.getElem_of_mem hmem
     rw [List.length_drop] at hq
     rw [List.getElem_drop, nth_eq hlt] at e
     have := (List.getElem_inj hcn1).1 e
     omega
    have hhas := zbm (c.drop (i + 1)) (nth c i) (by rw [List.length_drop]; omega)
    rw [hno, hu] at hhas
    rw [hu] at hge
    clear hno hxs
    (repeat (first | refine FW.seq ?_ | refine FW.region ?_ | refine FW.block ?_ | refine FW.skip ?_ | refine zb rfl rfl rfl ?_ | refine zu rfl rfl (by first | exact List.length_map _ | rfl | (simp; omega)) rfl rfl ?_ | refine zD rfl rfl rfl rfl rfl rfl (by simp; omega) rfl rfl ?_ | refine zB rfl rfl (by omega) rfl rfl ?_ | refine zeV rfl rfl (by omega) rfl rfl ?_))
    rw [show (i + 1) % ((c.length : Int)).natAbs = m by rw [Int.natAbs_natCast]; exact hm]
    (repeat (first | refine FW.seq ?_ | refine FW.region ?_ | refine FW.block ?_ | refine zd.nil ?_ | refine zc rfl rfl rfl ?_ | refine zJ rfl rfl rfl (by simp; omega) (by exact zf (by omega)) rfl rfl rfl rfl ?_))
    rw [hv]
    skip
    rw [show FV.bool false = FV.bool (zeh E (u, v) 0) from rfl]
    refine FW.loop (fun e : Nat => ⟨[(5, .int .i64 k), (6, .list 2 (E.map edf)), (9, .list 1 (c.map zm)), (13, .int .i64 i), (14, .int .i64 v), (15, .bool (zeh E (u, v) e)), (16, .int .i64 e)], []⟩) (fun e => e ≤ E.length) (fun e => E.length - e) 0 (Nat.zero_le _) (FLe.conv [] (by simp) (by simp) rfl (by repeat (first | exact .nil)) (by repeat (first | exact .nil)) (by repeat (first | exact .nil | refine .cons (.plain rfl rfl rfl) ?_))) ?_
    intro e he
    have hjs := zda E (u, v) e
    have hje : e = E.length → zeh E (u, v) e = true := fun h => by rw [h]; exact hjA
    generalize zeh E (u, v) e = g at hjs hje
    (repeat (first | refine FW.seq ?_ | refine FW.region ?_ | refine zd.nil ?_ | refine zb rfl rfl rfl ?_ | refine zu rfl rfl (by exact List.length_map _) rfl rfl ?_ | refine zQ rfl rfl rfl rfl ?_))
    refine FW.cond rfl (fun h => ?_) (fun h => ?_)
    ·have hlte : e < E.length := by simpa using h
     clear h hje
     have hjs := hjs hlte
     have heq := zcR (nth E e) u v
     (repeat (first | refine FW.seq ?_ | refine FW.block ?_ | refine FW.skip ?_ | refine FW.draw ?_ | refine zE rfl rfl rfl ?_))
     refine XZ (fun hg => ?_) (fun hg => ?_)
     ·rw [hg, Bool.true_or] at hjs
      (repeat (first | refine zx.nil ?_ | refine yv rfl rfl rfl ?_ | refine Xj rfl rfl rfl rfl ?_ | refine VN rfl rfl ⟨_, _, rfl, rfl, rfl⟩ ?_))
      refine ⟨by kernel_rfl, ?_⟩
      (repeat (first | refine FW.region ?_ | refine zd.nil ?_ | refine zc rfl rfl rfl ?_ | refine zb rfl rfl rfl ?_ | refine zB rfl rfl (by omega) rfl rfl ?_))
      refine ⟨e + 1, by omega, by omega, ?_⟩
      rw [hjs]
      exact (FLe.conv [] (by simp) (by simp) rfl (by repeat (first | exact .nil)) (by repeat (first | exact .nil)) (by repeat (first | exact .nil | refine .cons (.plain rfl rfl rfl) ?_)))
     ·rw [hg, Bool.false_or] at hjs
      (repeat (first | refine zE rfl rfl ⟨_, _, rfl, rfl, rfl⟩ ?_ | refine yw rfl rfl rfl rfl rfl rfl (by simp; omega) rfl ⟨_, _, rfl, rfl, rfl⟩ ?_ | refine yH rfl rfl rfl (by simp; omega) (by first | exact zf (by omega) | rfl) rfl rfl rfl ⟨_, _, rfl, rfl, rfl⟩ ?_ | refine zdr rfl rfl rfl (by decide) (by simp; omega) (by first | exact zf (by omega) | rfl) rfl rfl ⟨_, _, rfl, rfl, rfl⟩ ?_ | refine YN rfl rfl rfl rfl rfl rfl rfl rfl ⟨_, _, rfl, rfl, rfl⟩ ?_))
      rw [hu]
      skip
      refine zfF rfl rfl rfl rfl heq rfl ⟨_, _, rfl, rfl, rfl⟩ ?_
      (repeat (first | refine zx.nil ?_ | refine yv rfl rfl rfl ?_ | refine xC rfl rfl rfl rfl ?_))
      refine ⟨by kernel_rfl, ?_⟩
      (repeat (first | refine FW.region ?_ | refine zd.nil ?_ | refine zc rfl rfl rfl ?_ | refine zb rfl rfl rfl ?_ | refine zB rfl rfl (by omega) rfl rfl ?_))
      refine ⟨e + 1, by omega, by omega, ?_⟩
      rw [hjs]
      exact (FLe.conv [] (by simp) (by simp) rfl (by repeat (first | exact .nil)) (by repeat (first | exact .nil)) (by repeat (first | exact .nil | refine .cons (.plain rfl rfl rfl) ?_)))
    ·have hee : e = E.length := by simp at h; omega
     rw [hje hee]
     (repeat (first | refine FW.seq ?_ | refine FW.exit ?_ | refine FW.draw ?_ | refine zE rfl rfl rfl ?_ | refine xC rfl rfl rfl rfl ?_ | refine zfI rfl rfl rfl ?_ | refine zE rfl rfl ⟨_, _, rfl, rfl, rfl⟩ ?_ | refine yw rfl rfl rfl rfl rfl rfl (by simp; omega) rfl ⟨_, _, rfl, rfl, rfl⟩ ?_ | refine yH rfl rfl rfl (by simp; omega) (by first | exact zf (by omega) | rfl) rfl rfl rfl ⟨_, _, rfl, rfl, rfl⟩ ?_ | refine UT rfl rfl rfl ⟨_, _, rfl, rfl, rfl⟩ ?_))
     refine XZ (fun h => absurd (show nth c i < nth c 0 from of_decide_eq_true h) (by omega)) (fun h => ?_)
     (repeat (first | refine zE rfl rfl ⟨_, _, rfl, rfl, rfl⟩ ?_ | refine yw rfl rfl rfl rfl rfl rfl (by first | omega | (simp; omega)) rfl ⟨_, _, rfl, rfl, rfl⟩ ?_ | refine yH rfl rfl rfl (by first | omega | (simp; omega)) (by first | exact zf (by omega) | rfl) rfl rfl rfl ⟨_, _, rfl, rfl, rfl⟩ ?_ | refine zdo rfl rfl (by omega) rfl ⟨_, _, rfl, rfl, rfl⟩ ?_ | refine UU rfl rfl rfl rfl (by exact LoR.some rfl) (by exact HiR.none) (by first | omega | (simp; omega)) (by first | omega | (simp; omega)) rfl ⟨_, _, rfl, rfl, rfl⟩ ?_))
     rw [hu, show List.take ((List.map zm c).length - (i + 1)) (List.drop (i + 1) (List.map zm c)) = (c.drop (i + 1)).map zm by rw [List.take_of_length_le (by simp), List.map_drop]]
     refine zdp hhas (by repeat (first | exact zA.nil | refine zA.cons (by exact xz.plain rfl rfl) ?_)) rfl ⟨_, _, rfl, rfl, rfl⟩ ?_
     (repeat (first | refine zx.nil ?_ | refine xC rfl rfl rfl rfl ?_))
     refine ⟨by kernel_rfl, ?_⟩
     (repeat (first | refine FW.region ?_ | refine FW.skip ?_ | refine FW.condF rfl ?_ | refine zd.nil ?_ | refine zc rfl rfl rfl ?_ | refine zb rfl rfl rfl ?_ | refine zB rfl rfl (by omega) rfl rfl ?_))
     exact ⟨i + 1, by omega, by omega, (FLe.conv [] (by simp) (by simp) rfl (by repeat (first | exact .nil)) (by repeat (first | exact .nil)) (by repeat (first | exact .nil | refine .cons (.plain rfl rfl rfl) ?_)))⟩
   ·(repeat (first | refine FW.seq ?_ | refine FW.region ?_ | refine FW.exit ?_))
    refine yB YY (by repeat (first | exact zA.nil)) rfl rfl ?_
    (repeat (first | refine zd.nil ?_ | refine zc rfl rfl rfl ?_))
    exact FW.ret ⟨.inl rfl, yt rfl rfl rfl rfl⟩
end Go.Proofs.Ythjplkjpehdpfaa
