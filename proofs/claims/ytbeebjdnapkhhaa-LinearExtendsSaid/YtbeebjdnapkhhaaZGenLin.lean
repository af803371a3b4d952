/-
  The generated histories of registers have points in time, in plain Lean.
-/
import Derived.Test.YtbeebjdnapkhhaaZS
import Derived.Test.YtbeebjdnapkhhaaZH
namespace Go.Proofs.Ytbeebjdnapkhhaa
set_option linter.unusedVariables false

theorem UV {l l' : List OpV} {key : Int} : ∀ (o : List Int) (v : Int), (∀ x ∈ o, (nth l' x.toNat).k = (nth l x.toNat).k ∧ (nth l' x.toNat).key = (nth l x.toNat).key ∧ (nth l' x.toNat).arg = (nth l x.toNat).arg) →
  o.foldl (fun v x => if zb0 l' key x = true then (nth l' x.toNat).arg else v) v = o.foldl (fun v x => if zb0 l key x = true then (nth l x.toNat).arg else v) v
 | [], v, _ => rfl
 | x :: o, v, h => by
  obtain ⟨h1, h2, h3⟩ := h x (by simp)
  have hs : zb0 l' key x = zb0 l key x := by unfold zb0; rw [h1, h2]
  rw [List.foldl_cons, List.foldl_cons, hs, h3]
  exact UV o _ fun y hy => h y (by simp [hy])
theorem za7 {l l' : List OpV} {key : Int} {o : List Int} (h : ∀ x ∈ o, (nth l' x.toNat).k = (nth l x.toNat).k ∧ (nth l' x.toNat).key = (nth l x.toNat).key ∧ (nth l' x.toNat).arg = (nth l x.toNat).arg) : Vx l' key o = Vx l key o := UV o 0 h
theorem VI {E : List Nat} {x : Int} : x ∈ Zp E ↔ ∃ n : Nat, n ∈ E ∧ x = n := by
 unfold Zp
 rw [List.mem_map]
 exact ⟨fun ⟨n, h, e⟩ => ⟨n, h, e.symm⟩, fun ⟨n, h, e⟩ => ⟨n, h, e.symm⟩⟩
theorem zeZ (E : List Nat) (j : Nat) : Zp (E ++ [j]) = Zp E ++ [(j : Int)] := by unfold Zp; rw [List.map_append]; rfl
theorem zaC (E : List Nat) (q : Nat) : (Zp E).take q = Zp (E.take q) := by unfold Zp; rw [List.map_take]
structure zbX (s : HS) (E : List Nat) : Prop where
 nd : E.Nodup
 rng : ∀ x ∈ E, x < s.out.length
 don : ∀ j, j < s.out.length → (nth s.out j).done = true → j ∈ E
 opn : ∀ p, p < 3 → 0 ≤ nth s.op p → ((nth s.op p).toNat ∈ E ↔ nth s.ef p = true)
 vd : ∀ q, q < E.length → (nth s.out (nth E q)).k = 0 → (nth s.out (nth E q)).done = true → (nth s.out (nth E q)).res = Vx s.out (nth s.out (nth E q)).key (Zp (E.take q))
 vo : ∀ q, q < E.length → (nth s.out (nth E q)).k = 0 → ∀ p, p < 3 → nth s.op p = (nth E q : Nat) → nth s.rs p = Vx s.out (nth s.out (nth E q)).key (Zp (E.take q))
 now : ∀ c : Nat, c < 2 → nth s.now c = Vx s.out (c : Int) (Zp E)
 rt : ∀ a b, a < b → b < E.length → (nth s.out (nth E b)).done = true → (nth s.out (nth E a)).call < (nth s.out (nth E b)).ret
theorem zbX.init : zbX zcF [] where
 nd := List.nodup_nil
 rng x hx := by cases hx
 don j hj := absurd hj (Nat.not_lt_zero _)
 opn p hp h := by
  have h3 : p = 0 ∨ p = 1 ∨ p = 2 := by omega
  rcases h3 with rfl | rfl | rfl <;> exact absurd h (by decide)
 vd q hq := absurd hq (Nat.not_lt_zero _)
 vo q hq := absurd hq (Nat.not_lt_zero _)
 now c hc := by
  have h2 : c = 0 ∨ c = 1 := by omega
  rcases h2 with rfl | rfl <;> rfl
 rt a b _ hb := absurd hb (Nat.not_lt_zero _)
section
variable {s : HS} {E : List Nat} {i : Nat}
theorem zbX.open (hI : YB false i s) (h : zbX s E) (m : Int) {p : Nat} (hp : p < 3) : zbX (yQ false m p s) E := by
 have lst : nth (s.out ++ [yt false m p s]) s.out.length = yt false m p s := xn
 have old : ∀ j, j < s.out.length → nth (s.out ++ [yt false m p s]) j = nth s.out j := fun j hj => yS hj
 have hcg : ∀ key o, (∀ x ∈ o, x ∈ Zp E) → Vx (s.out ++ [yt false m p s]) key o = Vx s.out key o := fun key o ho => za7 fun x hx => by
  obtain ⟨n, hn, rfl⟩ := VI.1 (ho x hx)
  rw [Int.toNat_natCast, old n (h.rng n hn)]
  exact ⟨rfl, rfl, rfl⟩
 have htk : ∀ q, ∀ x ∈ Zp (E.take q), x ∈ Zp E := fun q x hx => by
  obtain ⟨n, hn, e⟩ := VI.1 hx
  exact VI.2 ⟨n, List.mem_of_mem_take hn, e⟩
 refine ⟨h.nd, fun x hx => ?_, fun j hj hd => ?_, fun x hx h0 => ?_, fun q hq => ?_, fun q hq => ?_, fun c hc => ?_, fun a b hab hb => ?_⟩
 ·have := h.rng x hx
  show x < (s.out ++ [_]).length
  simp; omega
 ·have hj' : j < s.out.length + 1 := by simpa [yQ] using hj
  have hd' : (nth (s.out ++ [yt false m p s]) j).done = true := hd
  by_cases e : j = s.out.length
  ·rw [e, lst] at hd'; cases hd'
  ·rw [old j (by omega)] at hd'
   exact h.don j (by omega) hd'
 ·show (nth (s.op.set p (s.out.length : Int)) x).toNat ∈ E ↔ nth (s.ef.set p false) x = true
  have h0' : 0 ≤ nth (s.op.set p (s.out.length : Int)) x := h0
  by_cases hx2 : p = x
  ·subst hx2
   rw [zh (by rw [hI.o3]; exact hx), zh (by rw [hI.e3]; exact hx), Int.toNat_natCast]
   exact ⟨fun hm => absurd (h.rng _ hm) (Nat.lt_irrefl _), fun h => by cases h⟩
  ·rw [zg hx2] at h0' ⊢
   rw [zg hx2]
   exact h.opn x hx h0'
 ·show (nth (s.out ++ [yt false m p s]) (nth E q)).k = 0 → (nth (s.out ++ [yt false m p s]) (nth E q)).done = true → (nth (s.out ++ [yt false m p s]) (nth E q)).res = Vx (s.out ++ [yt false m p s]) (nth (s.out ++ [yt false m p s]) (nth E q)).key _
  rw [old _ (h.rng _ (zn hq)), hcg _ _ (htk q)]
  exact h.vd q hq
 ·intro hk x hx hop
  show nth s.rs x = Vx (s.out ++ [yt false m p s]) _ _
  have hk' : (nth (s.out ++ [yt false m p s]) (nth E q)).k = 0 := hk
  have hop' : nth (s.op.set p (s.out.length : Int)) x = (nth E q : Nat) := hop
  have hEq := h.rng _ (zn hq)
  show nth s.rs x = Vx (s.out ++ [yt false m p s]) (nth (s.out ++ [yt false m p s]) (nth E q)).key _
  rw [old _ hEq] at hk' ⊢
  rw [hcg _ _ (htk q)]
  by_cases hx2 : p = x
  ·subst hx2
   rw [zh (by rw [hI.o3]; exact hx)] at hop'
   omega
  ·rw [zg hx2] at hop'
   exact h.vo q hq hk' x hx hop'
 ·show nth s.now c = Vx (s.out ++ [yt false m p s]) _ _
  rw [hcg _ _ fun x hx => hx]
  exact h.now c hc
 ·show (nth (s.out ++ [yt false m p s]) (nth E b)).done = true → (nth (s.out ++ [yt false m p s]) (nth E a)).call < (nth (s.out ++ [yt false m p s]) (nth E b)).ret
  rw [old _ (h.rng _ (zn hb)), old _ (h.rng _ (zn (by omega)))]
  exact h.rt a b hab hb
theorem zbX.lost (hI : YB false i s) (h : zbX s E) {p : Nat} (hp : p < 3) : zbX (WY p s) E := by
 have hop : ∀ x, x < 3 → 0 ≤ nth (s.op.set p (-1)) x → p ≠ x ∧ nth (s.op.set p (-1)) x = nth s.op x := fun x hx h0 => by
  by_cases hx2 : p = x
  ·subst hx2
   rw [zh (by rw [hI.o3]; exact hx)] at h0
   omega
  ·exact ⟨hx2, zg hx2⟩
 refine ⟨h.nd, h.rng, h.don, fun x hx h0 => ?_, h.vd, fun q hq hk x hx he => ?_, h.now, h.rt⟩
 ·obtain ⟨_, e⟩ := hop x hx h0
  show (nth (s.op.set p (-1)) x).toNat ∈ E ↔ nth s.ef x = true
  have h0' : 0 ≤ nth (s.op.set p (-1)) x := h0
  rw [e] at h0' ⊢
  exact h.opn x hx h0'
 ·have he' : nth (s.op.set p (-1)) x = (nth E q : Nat) := he
  obtain ⟨_, e⟩ := hop x hx (by rw [he']; omega)
  rw [e] at he'
  exact h.vo q hq hk x hx he'
theorem zbX.eff (hI : YB false i s) (h : zbX s E) {p : Nat} (hp : p < 3) (hop : 0 ≤ nth s.op p) (hef : nth s.ef p ≠ true) : zbX (xX (nth s.out (nth s.op p).toNat) p s) (E ++ [(nth s.op p).toNat]) := by
 obtain ⟨o1, o2, o3⟩ := hI.opn p hp hop
 have hG := hI.ops _ o1
 have hno : (nth s.op p).toNat ∉ E := fun hm => hef ((h.opn p hp hop).1 hm)
 obtain ⟨j, hj⟩ : ∃ j, (nth s.op p).toNat = j := ⟨_, rfl⟩
 rw [hj] at o1 o2 o3 hG hno ⊢
 have hopj : nth s.op p = (j : Nat) := by omega
 obtain ⟨g1, g2, g3, _, _, g6, _⟩ := ZP (nth s.out j) p s
 have hkey := hG.key
 have hk := zi6 hG.k
 have hk : (nth s.out j).k = 0 ∨ (nth s.out j).k = 1 := by
  rcases hk with ⟨e, _⟩ | ⟨_, h⟩
  ·cases e
  ·exact h
 have hnE : ∀ q, q < E.length → nth (E ++ [j]) q = nth E q := fun q hq => yS hq
 have hnl : nth (E ++ [j]) E.length = j := xn
 have htE : ∀ q, q ≤ E.length → (E ++ [j]).take q = E.take q := fun q hq => List.take_append_of_le_length hq
 have hrs : ∀ x, x < 3 → p ≠ x → nth (xX (nth s.out j) p s).rs x = nth s.rs x := fun x hx hpx => by
  rcases hk with hk | hk
  ·unfold xX; rw [if_neg (by omega), if_pos hk]; exact zg hpx
  ·unfold xX; rw [if_pos hk]; exact zg hpx
 have hrsp : (nth s.out j).k = 0 → nth (xX (nth s.out j) p s).rs p = nth s.now (nth s.out j).key.toNat := fun hk => by
  unfold xX; rw [if_neg (by omega), if_pos hk]; exact zh (by rw [hI.r3]; exact hp)
 have hnow : ∀ c : Nat, c < 2 → nth (xX (nth s.out j) p s).now c = if zb0 s.out (c : Int) (j : Int) = true then (nth s.out j).arg else nth s.now c := fun c hc => by
  unfold zb0
  rw [Int.toNat_natCast]
  rcases hk with hk | hk
  ·rw [decide_eq_false (show ¬ (nth s.out j).k = 1 by omega), Bool.and_false, if_neg (by decide)]
   unfold xX; rw [if_neg (by omega), if_pos hk]
  ·rw [decide_eq_true hk, Bool.and_true]
   unfold xX; rw [if_pos hk]
   show nth (s.now.set _ _) c = _
   by_cases e : (nth s.out j).key = (c : Int)
   ·rw [if_pos (by simpa using e), show (nth s.out j).key.toNat = c by omega, zh (by rw [hI.n2]; exact hc)]
   ·rw [if_neg (by simpa using e), zg (by omega)]
 refine ⟨List.nodup_append.2 ⟨h.nd, by simp, fun a ha b hb e => ?_⟩, fun x hx => ?_, fun x hx hd => ?_, fun x hx h0 => ?_, fun q hq => ?_, fun q hq => ?_, fun c hc => ?_, fun a b hab hb => ?_⟩
 ·rw [List.mem_singleton.1 hb] at e
  exact hno (e ▸ ha)
 ·rw [g1]
  rcases List.mem_append.1 hx with hx | hx
  ·exact h.rng x hx
  ·rw [List.mem_singleton.1 hx]; exact o1
 ·rw [g1] at hx hd
  exact List.mem_append_left _ (h.don x hx hd)
 ·rw [g3] at h0 ⊢
  rw [g6]
  by_cases hx2 : p = x
  ·subst hx2
   rw [zh (by rw [hI.e3]; exact hx), hj]
   simp
  ·rw [zg hx2]
   have hne := hI.other hp hx hx2 hop h0
   rw [hj] at hne
   rw [List.mem_append, List.mem_singleton]
   rw [← h.opn x hx h0]
   exact ⟨fun h => h.resolve_right (fun e => hne e.symm), .inl⟩
 ·rw [g1]
  rw [List.length_append, List.length_singleton] at hq
  by_cases e : q < E.length
  ·rw [hnE q e, htE q (by omega)]
   exact h.vd q e
  ·have : q = E.length := by omega
   subst this
   rw [hnl]
   intro _ hd
   rw [o3] at hd; cases hd
 ·rw [g1, g3]
  rw [List.length_append, List.length_singleton] at hq
  by_cases e : q < E.length
  ·rw [hnE q e, htE q (by omega)]
   intro hk0 x hx hxe
   by_cases hx2 : p = x
   ·subst hx2
    exfalso
    rw [hopj] at hxe
    have : j = nth E q := by omega
    exact hno (this ▸ zn e)
   ·rw [hrs x hx hx2]
    exact h.vo q e hk0 x hx hxe
  ·have : q = E.length := by omega
   subst this
   rw [hnl, htE _ (Nat.le_refl _), List.take_length]
   intro hk0 x hx hxe
   have hx2 : p = x := by
    refine Classical.byContradiction fun hne => ?_
    have := hI.other hp hx hne hop (by omega)
    omega
   subst hx2
   rw [hrsp hk0]
   have := h.now (nth s.out j).key.toNat (by omega)
   rw [this, show (((nth s.out j).key.toNat : Nat) : Int) = (nth s.out j).key by omega]
 ·rw [g1, hnow c hc, zeZ, zdf, Int.toNat_natCast, h.now c hc]
 ·rw [g1]
  rw [List.length_append, List.length_singleton] at hb
  by_cases e : b < E.length
  ·rw [hnE b e, hnE a (by omega)]
   exact h.rt a b hab e
  ·have : b = E.length := by omega
   subst this
   rw [hnl]
   intro hd
   rw [o3] at hd; cases hd
theorem zbX.done (hI : YB false i s) (h : zbX s E) {p : Nat} (hp : p < 3) (hop : 0 ≤ nth s.op p) (hef : nth s.ef p = true) : zbX (yb p s) E := by
 obtain ⟨o1, o2, o3⟩ := hI.opn p hp hop
 have hm := (h.opn p hp hop).2 hef
 obtain ⟨j, hj⟩ : ∃ j, (nth s.op p).toNat = j := ⟨_, rfl⟩
 have hopj : nth s.op p = (j : Nat) := by omega
 have hD : yb p s = { s with out := s.out.set j { nth s.out j with done := true, res := nth s.rs p, ret := (s.time : Int) }, op := s.op.set p (-1), time := s.time + 1 } := by unfold yb; rw [hj]
 rw [hj] at o1 o2 o3 hm
 rw [hD]
 obtain ⟨O, hO⟩ : ∃ O, s.out.set j { nth s.out j with done := true, res := nth s.rs p, ret := (s.time : Int) } = O := ⟨_, rfl⟩
 have hOj : nth O j = { nth s.out j with done := true, res := nth s.rs p, ret := (s.time : Int) } := by rw [← hO]; exact zh o1
 have hOo : ∀ x, j ≠ x → nth O x = nth s.out x := fun x hx => by rw [← hO]; exact zg hx
 have hOl : O.length = s.out.length := by rw [← hO, List.length_set]
 have hOa : ∀ x, (nth O x).k = (nth s.out x).k ∧ (nth O x).key = (nth s.out x).key ∧ (nth O x).arg = (nth s.out x).arg ∧ (nth O x).call = (nth s.out x).call := fun x => by
  by_cases e : j = x
  ·subst e; rw [hOj]; exact ⟨rfl, rfl, rfl, rfl⟩
  ·rw [hOo x e]; exact ⟨rfl, rfl, rfl, rfl⟩
 have hcg : ∀ key o, Vx O key o = Vx s.out key o := fun key o => za7 fun x _ => ⟨(hOa _).1, (hOa _).2.1, (hOa _).2.2.1⟩
 have hopx : ∀ x, x < 3 → 0 ≤ nth (s.op.set p (-1)) x → p ≠ x ∧ nth (s.op.set p (-1)) x = nth s.op x := fun x hx h0 => by
  by_cases hx2 : p = x
  ·subst hx2
   rw [zh (by rw [hI.o3]; exact hx)] at h0
   omega
  ·exact ⟨hx2, zg hx2⟩
 rw [hO]
 refine ⟨h.nd, fun x hx => by show x < O.length; rw [hOl]; exact h.rng x hx, fun x hx hd => ?_, fun x hx h0 => ?_, fun q hq hk hd => ?_, fun q hq hk x hx hxe => ?_, fun c hc => ?_, fun a b hab hb hd => ?_⟩
 ·have hx' : x < O.length := hx
  have hd' : (nth O x).done = true := hd
  by_cases e : j = x
  ·subst e; exact hm
  ·rw [hOo x e] at hd'
   exact h.don x (by omega) hd'
 ·have h0' : 0 ≤ nth (s.op.set p (-1)) x := h0
  obtain ⟨_, e⟩ := hopx x hx h0'
  show (nth (s.op.set p (-1)) x).toNat ∈ E ↔ nth s.ef x = true
  rw [e] at h0' ⊢
  exact h.opn x hx h0'
 ·have hk' : (nth O (nth E q)).k = 0 := hk
  have hd' : (nth O (nth E q)).done = true := hd
  show (nth O (nth E q)).res = Vx O (nth O (nth E q)).key _
  rw [hcg, (hOa _).2.1]
  rw [(hOa _).1] at hk'
  by_cases e : j = nth E q
  ·rw [← e, hOj]
   have := h.vo q hq hk' p hp (by rw [hopj, e])
   rw [← e] at this
   exact this
  ·rw [hOo _ e] at hd' ⊢
   exact h.vd q hq hk' hd'
 ·have hk' : (nth O (nth E q)).k = 0 := hk
  have hxe' : nth (s.op.set p (-1)) x = (nth E q : Nat) := hxe
  show nth s.rs x = Vx O (nth O (nth E q)).key _
  rw [hcg, (hOa _).2.1]
  rw [(hOa _).1] at hk'
  obtain ⟨_, e⟩ := hopx x hx (by rw [hxe']; omega)
  rw [e] at hxe'
  exact h.vo q hq hk' x hx hxe'
 ·show nth s.now c = Vx O _ _
  rw [hcg]; exact h.now c hc
 ·have hd' : (nth O (nth E b)).done = true := hd
  show (nth O (nth E a)).call < (nth O (nth E b)).ret
  rw [(hOa _).2.2.2]
  by_cases e : j = nth E b
  ·rw [← e, hOj]
   exact (hI.ops _ (h.rng _ (zn (show a < E.length by omega)))).c0.2
  ·rw [hOo _ e] at hd' ⊢
   exact h.rt a b hab hb hd'
theorem zbX.step (hI : YB false i s) (h : zbX s E) (x : Int) : ∃ E', zbX (xy false x s) E' := by
 unfold xy
 have hp : (zL x 1000000 % 3).toNat < 3 := by
  have : 0 ≤ zL x 1000000 := xE (by decide)
  omega
 split
 ·exact ⟨E, h.open hI _ hp⟩
 ·rename_i hop
  generalize (zL x 1000000 % 3).toNat = p at hp hop
  have hop : 0 ≤ nth s.op p := by omega
  have hI1 := hI.effM p
  have he : (zT p s).op = s.op := (Yn _ _).2.2.1
  obtain ⟨E1, h1, hef⟩ : ∃ E1, zbX (zT p s) E1 ∧ nth (zT p s).ef p = true := by
   unfold zT
   split
   ·rename_i hf; exact ⟨E, h, hf⟩
   ·rename_i hf
    refine ⟨_, h.eff hI hp hop hf, ?_⟩
    rw [(ZP _ p s).2.2.2.2.2.1]
    exact zh (by rw [hI.e3]; exact hp)
  unfold zcE
  split
  ·exact ⟨E1, h1.lost hI1 hp⟩
  ·split
   ·exact ⟨E1, h1.done hI1 hp (by rw [he]; exact hop) hef⟩
   ·exact ⟨E1, h1⟩
end
structure zj2 (l : List OpV) (E : List Nat) : Prop where
 nd : E.Nodup
 rng : ∀ x ∈ E, x < l.length
 mem : ∀ v, v < l.length → (nth l v).done = true → v ∈ E
 val : ∀ q, q < E.length → (nth l (nth E q)).k = 0 → (nth l (nth E q)).done = true → (nth l (nth E q)).res = Vx l (nth l (nth E q)).key (Zp (E.take q))
 rt : ∀ a b, a < b → b < E.length → bef l (nth E b) (nth E a) = false
theorem zj2.wr {l : List OpV} {E : List Nat} (h : zj2 l E) (D : yq l) {w : Nat} (hw : w < l.length) (h1 : (nth l w).k = 1) (hi : zW l w = true) : w ∈ E := by
 unfold zW at hi
 rw [Bool.or_eq_true, Bool.and_eq_true] at hi
 rcases hi with hd | ⟨_, hr⟩
 ·exact h.mem w hw hd
 ·obtain ⟨r, r1, r2⟩ := Yi.1 hr
  rw [yO] at r2
  obtain ⟨k0, hd, hk, hv⟩ := r2
  have hmr := h.mem r r1 hd
  obtain ⟨q, hq, hqe⟩ := List.getElem_of_mem hmr
  have hqn : nth E q = r := by rw [zi hq, hqe]
  have := h.val q hq (by rw [hqn]; exact k0) (by rw [hqn]; exact hd)
  rw [hqn, ← zaC] at this
  have ha := D.arg hw h1
  rcases Ww l (nth l r).key (Zp E) q (by rw [VH]; omega) with ⟨e, _⟩ | ⟨j, j1, j2, j3, _⟩
  ·omega
  ·have hjE : j < E.length := by omega
   rw [XS hjE] at j2 j3
   unfold zb0 at j2
   rw [Int.toNat_natCast] at j2 j3
   rw [Bool.and_eq_true, decide_eq_true_eq, decide_eq_true_eq] at j2
   have : nth E j = w := D.uniq (h.rng _ (zn hjE)) hw j2.2 h1 (j2.1.trans hk) (by omega)
   rw [← this]; exact zn hjE
theorem zj2.inc {l : List OpV} {E : List Nat} (h : zj2 l E) (D : yq l) {v : Nat} (hv : v < l.length) (hi : zW l v = true) : v ∈ E := by
 rcases D.kind hv with hk | hk
 ·exact h.mem v hv (ZS hk hi)
 ·exact h.wr D hv hk hi
theorem zj2.tau {l : List OpV} {E : List Nat} (h : zj2 l E) (D : yq l) (hw : ∀ i, i < l.length → (nth l i).call < (nth l i).ret) : zkc l (Ys E) := by
 refine ⟨fun i k hi hk ii ik hb => ?_, fun r hr h0 hd => ?_⟩
 ·have mi := h.inc D hi ii
  have mk := h.inc D hk ik
  refine Nat.lt_of_not_le fun hle => ?_
  rcases Nat.lt_or_eq_of_le hle with h2 | h2
  ·have := h.rt _ _ h2 (xO mi)
   rw [yp mi, yp mk, hb] at this
   cases this
  ·have := Xf mk mi h2
   subst this
   have := zbe hw hk hb
   omega
 ·have mr := h.mem r hr hd
  have hp := xO mr
  have hv := h.val _ hp (by rw [yp mr]; exact h0) (by rw [yp mr]; exact hd)
  rw [yp mr, ← zaC] at hv
  rcases Ww l (nth l r).key (Zp E) (Ys E r) (by rw [VH]; omega) with ⟨h1, h2⟩ | ⟨j, h1, h2, h3, h4⟩
  ·refine .inl ⟨by rw [hv, h1], fun w hw' => ?_⟩
   have mw := h.inc D hw'.1 hw'.2.2.2
   refine Nat.le_of_not_lt fun hlt => ?_
   have := h2 _ hlt
   rw [XS (xO mw), yp mw, (Ul D hw'.1 hw'.2.2.2).2 hw'] at this
   cases this
  ·have hjE : j < E.length := by omega
   rw [XS hjE] at h2 h3
   obtain ⟨w, e⟩ : ∃ w, nth E j = w := ⟨_, rfl⟩
   rw [e] at h2 h3
   rw [Int.toNat_natCast] at h3
   have wl : w < l.length := by rw [← e]; exact h.rng _ (zn hjE)
   have hwp : (nth l w).key = (nth l r).key ∧ (nth l w).k = 1 := by
    unfold zb0 at h2
    rw [Int.toNat_natCast, Bool.and_eq_true, decide_eq_true_eq, decide_eq_true_eq] at h2
    exact h2
   have hwe : wrI l (nth l r).key w := ⟨wl, hwp.1, hwp.2, zd4 hr h0 hd wl hwp.2 hwp.1 (by rw [← h3, ← hv])⟩
   have hpw : Ys E w = j := by rw [← e]; exact UD h.nd hjE
   refine .inr ⟨w, hwe, by rw [← h3, ← hv], by omega, fun w' hw' hne => ?_⟩
   have mw' := h.inc D hw'.1 hw'.2.2.2
   have hne2 : Ys E w' ≠ j := fun e2 => hne (by rw [← yp mw', e2, e])
   by_cases hq : Ys E w' < Ys E r
   ·left
    rw [hpw]
    refine Nat.lt_of_not_le fun hle => ?_
    have := h4 _ (by omega) hq
    rw [XS (xO mw'), yp mw', (Ul D hw'.1 hw'.2.2.2).2 hw'] at this
    cases this
   ·right
    have : Ys E w' ≠ Ys E r := fun e2 => by
     have := Xf mw' mr e2
     subst this
     have := hw'.2.2.1
     omega
    omega
end Go.Proofs.Ytbeebjdnapkhhaa
