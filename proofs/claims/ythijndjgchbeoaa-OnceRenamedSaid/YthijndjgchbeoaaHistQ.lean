/-
  The generator of histories of layer 21, at plain values, and that what it makes are histories.
-/
import Derived.Test.YthijndjgchbeoaaWfPlain
namespace Go.Proofs.Ythijndjgchbeoaa
set_option linter.unusedVariables false

structure HS where
  out : List OpV
  pr : List Int
  op : List Int
  ef : List Bool
  rs : List Int
  now : List Int
  qs : List (List Int)
  time : Nat
  fresh : Nat
  deriving Inhabited

def hsInit : HS := ⟨[], [0, 1, 2], [-1, -1, -1], [false, false, false], [0, 0, 0], [0, 0], [[], []], 0, 1⟩
def hsKind (q : Bool) (m : Int) : Int := if q = true then 3 + m % 2 else m % 2
def hsW (kd : Int) : Bool := decide (kd = 1) || decide (kd = 3)
def hsNew (q : Bool) (m : Int) (p : Nat) (s : HS) : OpV := ⟨nth s.pr p, hsKind q m, m / 2 % 2, if hsW (hsKind q m) = true then (s.fresh : Int) else 0, 0, (s.time : Int), 0, false⟩
def hsOpen (q : Bool) (m : Int) (p : Nat) (s : HS) : HS :=
  { s with out := s.out ++ [hsNew q m p s], op := s.op.set p (s.out.length : Int), ef := s.ef.set p false, time := s.time + 1, fresh := if hsW (hsKind q m) = true then s.fresh + 1 else s.fresh }
/-- the operation takes effect -/
def hsEff (o : OpV) (p : Nat) (s : HS) : HS :=
  if o.k = 1 then { s with ef := s.ef.set p true, rs := s.rs.set p 0, now := s.now.set o.key.toNat o.arg }
  else if o.k = 0 then { s with ef := s.ef.set p true, rs := s.rs.set p (nth s.now o.key.toNat) }
  else if o.k = 3 then { s with ef := s.ef.set p true, rs := s.rs.set p 0, qs := s.qs.set o.key.toNat (nth s.qs o.key.toNat ++ [o.arg]) }
  else match nth s.qs o.key.toNat with
    | [] => { s with ef := s.ef.set p true, rs := s.rs.set p 0 }
    | x :: r => { s with ef := s.ef.set p true, rs := s.rs.set p x, qs := s.qs.set o.key.toNat r }
def hsEffM (p : Nat) (s : HS) : HS := if nth s.ef p = true then s else hsEff (nth s.out (nth s.op p).toNat) p s
def hsLost (p : Nat) (s : HS) : HS := { s with pr := s.pr.set p (nth s.pr p + 3), op := s.op.set p (-1) }
def hsDone (p : Nat) (s : HS) : HS :=
  { s with out := s.out.set (nth s.op p).toNat { nth s.out (nth s.op p).toNat with done := true, res := nth s.rs p, ret := (s.time : Int) }, op := s.op.set p (-1), time := s.time + 1 }
def hsEnd (m : Int) (p : Nat) (s : HS) : HS := if m % 8 = 7 then hsLost p s else if 0 < m % 3 then hsDone p s else s
def hsStep (q : Bool) (x : Int) (s : HS) : HS :=
  if nth s.op (around x 1000000 % 3).toNat < 0 then hsOpen q (around x 1000000 / 3) (around x 1000000 % 3).toNat s
  else hsEnd (around x 1000000 / 3) (around x 1000000 % 3).toNat (hsEffM (around x 1000000 % 3).toNat s)
def hsTo (q : Bool) (l : List Int) : Nat → HS
  | 0 => hsInit
  | i + 1 => hsStep q (nth l i) (hsTo q l i)
def hsFix (t : Nat) (o : OpV) : OpV := if o.done = true then o else { o with ret := (t : Int) }
def histQ (q : Bool) (l : List Int) : List OpV := (hsTo q l (min l.length 60)).out.map (hsFix (hsTo q l (min l.length 60)).time)

theorem hsEff_same (o : OpV) (p : Nat) (s : HS) : (hsEff o p s).out = s.out ∧ (hsEff o p s).pr = s.pr ∧ (hsEff o p s).op = s.op ∧ (hsEff o p s).time = s.time ∧ (hsEff o p s).fresh = s.fresh ∧ (hsEff o p s).ef = s.ef.set p true ∧ (hsEff o p s).rs.length = s.rs.length ∧ (hsEff o p s).now.length = s.now.length ∧ (hsEff o p s).qs.length = s.qs.length := by
  unfold hsEff
  split
  · simp
  · split
    · simp
    · split
      · simp
      · split <;> simp
theorem hsEffM_same (p : Nat) (s : HS) : (hsEffM p s).out = s.out ∧ (hsEffM p s).pr = s.pr ∧ (hsEffM p s).op = s.op ∧ (hsEffM p s).time = s.time ∧ (hsEffM p s).fresh = s.fresh ∧ (hsEffM p s).ef.length = s.ef.length ∧ (hsEffM p s).rs.length = s.rs.length ∧ (hsEffM p s).now.length = s.now.length ∧ (hsEffM p s).qs.length = s.qs.length := by
  unfold hsEffM
  split
  · simp
  · obtain ⟨h1, h2, h3, h4, h5, h6, h7, h8, h9⟩ := hsEff_same (nth s.out (nth s.op p).toNat) p s
    exact ⟨h1, h2, h3, h4, h5, by rw [h6]; simp, h7, h8, h9⟩

/-- what is true of an operation there -/
structure OpG (q : Bool) (s : HS) (j : Nat) (o : OpV) : Prop where
  p0 : 0 ≤ o.p
  k : o.k = hsKind q 0 ∨ o.k = hsKind q 1
  key : 0 ≤ o.key ∧ o.key ≤ 1
  c0 : 0 ≤ o.call ∧ o.call < s.time
  arg : 0 ≤ o.arg ∧ o.arg < s.fresh
  w : hsW o.k = true → 1 ≤ o.arg
  pp : o.p ≤ nth s.pr (o.p % 3).toNat
  d : o.done = true → o.call < o.ret ∧ o.ret < s.time
  n : o.done = false → o.res = 0 ∧ (nth s.op (o.p % 3).toNat = j ∨ o.p < nth s.pr (o.p % 3).toNat)
/-- two operations there -/
def hRelW (a b : OpV) : Prop := hRel a b ∧ (hsW a.k = true → hsW b.k = true → a.arg < b.arg)
structure HInv (q : Bool) (i : Nat) (s : HS) : Prop where
  o3 : s.op.length = 3
  p3 : s.pr.length = 3
  e3 : s.ef.length = 3
  r3 : s.rs.length = 3
  n2 : s.now.length = 2
  q2 : s.qs.length = 2
  ti : s.time ≤ i
  li : s.out.length ≤ i
  f1 : 1 ≤ s.fresh
  fi : s.fresh ≤ i + 1
  pr : ∀ p, p < 3 → 0 ≤ nth s.pr p ∧ nth s.pr p % 3 = p ∧ nth s.pr p ≤ 3 * i + 2
  opn : ∀ p, p < 3 → 0 ≤ nth s.op p → (nth s.op p).toNat < s.out.length ∧ (nth s.out (nth s.op p).toNat).p = nth s.pr p ∧ (nth s.out (nth s.op p).toNat).done = false
  neg : ∀ p, p < 3 → -1 ≤ nth s.op p
  ops : ∀ j, j < s.out.length → OpG q s j (nth s.out j)
  rel : s.out.Pairwise hRelW
theorem HInv.init (q : Bool) : HInv q 0 hsInit := by
  have h3 : ∀ p, p < 3 → p = 0 ∨ p = 1 ∨ p = 2 := fun p hp => by omega
  refine ⟨rfl, rfl, rfl, rfl, rfl, rfl, Nat.le_refl _, Nat.le_refl _, Nat.le_refl _, Nat.le_refl _, fun p hp => ?_, fun p hp h => ?_, fun p hp => ?_, fun j hj => ?_, .nil⟩
  · rcases h3 p hp with rfl | rfl | rfl <;> decide
  · rcases h3 p hp with rfl | rfl | rfl <;> exact absurd h (by decide)
  · rcases h3 p hp with rfl | rfl | rfl <;> decide
  · exact absurd hj (Nat.not_lt_zero _)

theorem hsKind_01 (q : Bool) {m : Int} (hm : 0 ≤ m) : hsKind q m = hsKind q 0 ∨ hsKind q m = hsKind q 1 := by
  unfold hsKind
  cases q <;> simp <;> omega
theorem HInv.open {q : Bool} {i : Nat} {s : HS} (h : HInv q i s) {m : Int} (hm : 0 ≤ m) {p : Nat} (hp : p < 3) (hop : nth s.op p < 0) : HInv q (i + 1) (hsOpen q m p s) := by
  have hop1 : nth s.op p = -1 := by have := h.neg p hp; omega
  have hpr := h.pr p hp
  have lst : nth (s.out ++ [hsNew q m p s]) s.out.length = hsNew q m p s := nth_append_len
  have old : ∀ j, j < s.out.length → nth (s.out ++ [hsNew q m p s]) j = nth s.out j := fun j hj => nth_append_left hj
  have hfr : (hsOpen q m p s).fresh = if hsW (hsKind q m) = true then s.fresh + 1 else s.fresh := rfl
  have hfl : s.fresh ≤ (hsOpen q m p s).fresh := by rw [hfr]; split <;> omega
  have hp3 : ((nth s.pr p) % 3).toNat = p := by omega
  refine ⟨by simp [hsOpen, h.o3], h.p3, by simp [hsOpen, h.e3], h.r3, h.n2, h.q2, Nat.succ_le_succ h.ti, by simp [hsOpen]; exact h.li, Nat.le_trans h.f1 hfl, ?_, fun x hx => ?_, fun x hx h0 => ?_, fun x hx => ?_, fun j hj => ?_, ?_⟩
  · rw [hfr]; have := h.fi; split <;> omega
  · obtain ⟨a, b, c⟩ := h.pr x hx
    exact ⟨a, b, by show nth s.pr x ≤ _; omega⟩
  · show (nth (s.op.set p (s.out.length : Int)) x).toNat < (s.out ++ [hsNew q m p s]).length ∧ (nth (s.out ++ [hsNew q m p s]) (nth (s.op.set p (s.out.length : Int)) x).toNat).p = nth s.pr x ∧ (nth (s.out ++ [hsNew q m p s]) (nth (s.op.set p (s.out.length : Int)) x).toNat).done = false
    by_cases hx2 : p = x
    · subst hx2
      rw [nth_set_same (by rw [h.o3]; exact hx), Int.toNat_natCast, lst]
      exact ⟨by simp, rfl, rfl⟩
    · have h0' : 0 ≤ nth (s.op.set p (s.out.length : Int)) x := h0
      rw [nth_set_other hx2] at h0' ⊢
      obtain ⟨a, b, c⟩ := h.opn x hx h0'
      rw [old _ a]
      exact ⟨by simp; omega, b, c⟩
  · show -1 ≤ nth (s.op.set p (s.out.length : Int)) x
    by_cases hx2 : p = x
    · subst hx2; rw [nth_set_same (by rw [h.o3]; exact hx)]; omega
    · rw [nth_set_other hx2]; exact h.neg x hx
  · show OpG q _ j (nth (s.out ++ [hsNew q m p s]) j)
    have hj' : j < s.out.length + 1 := by simpa [hsOpen] using hj
    rcases Nat.lt_or_ge j s.out.length with h1 | h1
    · rw [old j h1]
      have g := h.ops j h1
      refine ⟨g.p0, g.k, g.key, ⟨g.c0.1, by show _ < ((s.time + 1 : Nat) : Int); have := g.c0.2; omega⟩, ⟨g.arg.1, by have := g.arg.2; omega⟩, g.w, g.pp, fun hd => ⟨(g.d hd).1, by show _ < ((s.time + 1 : Nat) : Int); have := (g.d hd).2; omega⟩, fun hd => ⟨(g.n hd).1, ?_⟩⟩
      show nth (s.op.set p (s.out.length : Int)) _ = (j : Int) ∨ _
      rcases (g.n hd).2 with h2 | h2
      · by_cases hx2 : p = ((nth s.out j).p % 3).toNat
        · rw [← hx2, hop1] at h2; omega
        · left; rw [nth_set_other hx2]; exact h2
      · exact .inr h2
    · have : j = s.out.length := by omega
      subst this
      rw [lst]
      have hf : (hsNew q m p s).arg = if hsW (hsKind q m) = true then (s.fresh : Int) else 0 := rfl
      have hf1 := h.f1
      refine ⟨hpr.1, hsKind_01 q hm, ⟨by show 0 ≤ m / 2 % 2; omega, by show m / 2 % 2 ≤ 1; omega⟩, ⟨by show 0 ≤ (s.time : Int); omega, by show (s.time : Int) < ((s.time + 1 : Nat) : Int); omega⟩, ⟨by rw [hf]; split <;> omega, by rw [hf, hfr]; split <;> omega⟩, fun hw => ?_, ?_, (fun hd => by cases hd), fun _ => ⟨rfl, .inl ?_⟩⟩
      · have hw' : hsW (hsKind q m) = true := hw
        rw [hf, if_pos hw']; omega
      · show nth s.pr p ≤ nth s.pr (nth s.pr p % 3).toNat
        rw [hp3]; exact Int.le_refl _
      · show nth (s.op.set p (s.out.length : Int)) (nth s.pr p % 3).toNat = _
        rw [hp3, nth_set_same (by rw [h.o3]; exact hp)]
  · show (s.out ++ [hsNew q m p s]).Pairwise hRelW
    rw [List.pairwise_append]
    refine ⟨h.rel, List.pairwise_singleton _ _, fun a ha b hb => ?_⟩
    rw [List.mem_singleton] at hb
    subst hb
    obtain ⟨j, hj, rfl⟩ := List.getElem_of_mem ha
    rw [← nth_eq hj]
    have g := h.ops j hj
    refine ⟨⟨g.c0.2, fun hd => ⟨by show _ ≠ (s.time : Int); have := (g.d hd).2; omega, fun hd2 => by cases hd2⟩, fun he => ?_⟩, fun h1 h2 => ?_⟩
    · have he' : (nth s.out j).p = nth s.pr p := he
      cases hd : (nth s.out j).done with
      | true => exact ⟨rfl, by show _ ≤ (s.time : Int); have := (g.d hd).2; omega⟩
      | false =>
        rcases (g.n hd).2 with h2 | h2
        · rw [he', hp3, hop1] at h2; omega
        · rw [he', hp3] at h2; omega
    · have hw' : hsW (hsKind q m) = true := h2
      show _ < if hsW (hsKind q m) = true then (s.fresh : Int) else 0
      rw [if_pos hw']
      exact g.arg.2
theorem HInv.effM {q : Bool} {i : Nat} {s : HS} (h : HInv q i s) (p : Nat) : HInv q i (hsEffM p s) := by
  obtain ⟨h1, h2, h3, h4, h5, h6, h7, h8, h9⟩ := hsEffM_same p s
  refine ⟨by rw [h3]; exact h.o3, by rw [h2]; exact h.p3, by rw [h6]; exact h.e3, by rw [h7]; exact h.r3, by rw [h8]; exact h.n2, by rw [h9]; exact h.q2, by rw [h4]; exact h.ti, by rw [h1]; exact h.li, by rw [h5]; exact h.f1, by rw [h5]; exact h.fi, by rw [h2]; exact h.pr, by rw [h1, h2, h3]; exact h.opn, by rw [h3]; exact h.neg, fun j hj => ?_, by rw [h1]; exact h.rel⟩
  rw [h1] at hj ⊢
  have g := h.ops j hj
  exact ⟨g.p0, g.k, g.key, by rw [h4]; exact g.c0, by rw [h5]; exact g.arg, g.w, by rw [h2]; exact g.pp, by rw [h4]; exact g.d, by rw [h2, h3]; exact g.n⟩
theorem HInv.lost {q : Bool} {i : Nat} {s : HS} (h : HInv q i s) {p : Nat} (hp : p < 3) : HInv q (i + 1) (hsLost p s) := by
  have hpr := h.pr p hp
  have prx : ∀ x, x < 3 → nth s.pr x ≤ nth (s.pr.set p (nth s.pr p + 3)) x := fun x hx => by
    by_cases hx2 : p = x
    · subst hx2; rw [nth_set_same (by rw [h.p3]; exact hx)]; omega
    · rw [nth_set_other hx2]; exact Int.le_refl _
  refine ⟨by simp [hsLost, h.o3], by simp [hsLost, h.p3], h.e3, h.r3, h.n2, h.q2, Nat.le_succ_of_le h.ti, Nat.le_succ_of_le h.li, h.f1, Nat.le_succ_of_le h.fi, fun x hx => ?_, fun x hx h0 => ?_, fun x hx => ?_, fun j hj => ?_, h.rel⟩
  · show 0 ≤ nth (s.pr.set p (nth s.pr p + 3)) x ∧ nth (s.pr.set p (nth s.pr p + 3)) x % 3 = x ∧ nth (s.pr.set p (nth s.pr p + 3)) x ≤ 3 * ((i + 1 : Nat) : Int) + 2
    by_cases hx2 : p = x
    · subst hx2; rw [nth_set_same (by rw [h.p3]; exact hx)]; omega
    · rw [nth_set_other hx2]
      have := h.pr x hx
      omega
  · have h0' : 0 ≤ nth (s.op.set p (-1)) x := h0
    show (nth (s.op.set p (-1)) x).toNat < s.out.length ∧ (nth s.out (nth (s.op.set p (-1)) x).toNat).p = nth (s.pr.set p (nth s.pr p + 3)) x ∧ (nth s.out (nth (s.op.set p (-1)) x).toNat).done = false
    by_cases hx2 : p = x
    · subst hx2; rw [nth_set_same (by rw [h.o3]; exact hx)] at h0'; omega
    · rw [nth_set_other hx2] at h0' ⊢
      rw [nth_set_other hx2]
      exact h.opn x hx h0'
  · show -1 ≤ nth (s.op.set p (-1)) x
    by_cases hx2 : p = x
    · subst hx2; rw [nth_set_same (by rw [h.o3]; exact hx)]; omega
    · rw [nth_set_other hx2]; exact h.neg x hx
  · have g := h.ops j hj
    have hx3 : ((nth s.out j).p % 3).toNat < 3 := by omega
    refine ⟨g.p0, g.k, g.key, g.c0, g.arg, g.w, Int.le_trans g.pp (prx _ hx3), g.d, fun hd => ⟨(g.n hd).1, ?_⟩⟩
    show nth (s.op.set p (-1)) ((nth s.out j).p % 3).toNat = (j : Int) ∨ (nth s.out j).p < nth (s.pr.set p (nth s.pr p + 3)) ((nth s.out j).p % 3).toNat
    by_cases hx2 : p = ((nth s.out j).p % 3).toNat
    · right
      rw [← hx2, nth_set_same (by rw [h.p3]; exact hp)]
      have := g.pp
      rw [← hx2] at this
      omega
    · rw [nth_set_other hx2, nth_set_other hx2]
      exact (g.n hd).2
theorem HInv.done {q : Bool} {i : Nat} {s : HS} (h : HInv q i s) {p : Nat} (hp : p < 3) (hop : 0 ≤ nth s.op p) : HInv q (i + 1) (hsDone p s) := by
  obtain ⟨hj0, hpj, hdj⟩ := h.opn p hp hop
  have hpr := h.pr p hp
  generalize hjj : (nth s.op p).toNat = j0 at hj0 hpj hdj
  have hout : (hsDone p s).out = s.out.set j0 { nth s.out j0 with done := true, res := nth s.rs p, ret := (s.time : Int) } := by unfold hsDone; rw [hjj]
  have hlen : (hsDone p s).out.length = s.out.length := by rw [hout]; simp
  have same : nth (hsDone p s).out j0 = { nth s.out j0 with done := true, res := nth s.rs p, ret := (s.time : Int) } := by rw [hout, nth_set_same hj0]
  have oth : ∀ j, j0 ≠ j → nth (hsDone p s).out j = nth s.out j := fun j hj => by rw [hout, nth_set_other hj]
  have gj := h.ops j0 hj0
  have hp3 : ((nth s.out j0).p % 3).toNat = p := by rw [hpj]; omega
  refine ⟨by simp [hsDone, h.o3], h.p3, h.e3, h.r3, h.n2, h.q2, Nat.succ_le_succ h.ti, by rw [hlen]; exact Nat.le_succ_of_le h.li, h.f1, Nat.le_succ_of_le h.fi, fun x hx => ?_, fun x hx h0 => ?_, fun x hx => ?_, fun j hj => ?_, ?_⟩
  · obtain ⟨a, b, c⟩ := h.pr x hx
    exact ⟨a, b, by show nth s.pr x ≤ _; omega⟩
  · have h0' : 0 ≤ nth (s.op.set p (-1)) x := h0
    rw [hlen]
    show (nth (s.op.set p (-1)) x).toNat < s.out.length ∧ (nth (hsDone p s).out (nth (s.op.set p (-1)) x).toNat).p = nth s.pr x ∧ (nth (hsDone p s).out (nth (s.op.set p (-1)) x).toNat).done = false
    by_cases hx2 : p = x
    · subst hx2; rw [nth_set_same (by rw [h.o3]; exact hx)] at h0'; omega
    · rw [nth_set_other hx2] at h0' ⊢
      obtain ⟨a, b, c⟩ := h.opn x hx h0'
      have hne : j0 ≠ (nth s.op x).toNat := fun e => by
        rw [← e, hpj] at b
        have := h.pr x hx
        omega
      rw [oth _ hne]
      exact ⟨a, b, c⟩
  · show -1 ≤ nth (s.op.set p (-1)) x
    by_cases hx2 : p = x
    · subst hx2; rw [nth_set_same (by rw [h.o3]; exact hx)]; omega
    · rw [nth_set_other hx2]; exact h.neg x hx
  · rw [hlen] at hj
    by_cases hjx : j0 = j
    · subst hjx
      rw [same]
      refine ⟨gj.p0, gj.k, gj.key, ⟨gj.c0.1, by show _ < ((s.time + 1 : Nat) : Int); have := gj.c0.2; dsimp only; omega⟩, gj.arg, gj.w, gj.pp, fun _ => ⟨gj.c0.2, by show (s.time : Int) < ((s.time + 1 : Nat) : Int); omega⟩, fun hd => by cases hd⟩
    · rw [oth j hjx]
      have g := h.ops j hj
      refine ⟨g.p0, g.k, g.key, ⟨g.c0.1, by show _ < ((s.time + 1 : Nat) : Int); have := g.c0.2; omega⟩, g.arg, g.w, g.pp, fun hd => ⟨(g.d hd).1, by show _ < ((s.time + 1 : Nat) : Int); have := (g.d hd).2; omega⟩, fun hd => ⟨(g.n hd).1, ?_⟩⟩
      show nth (s.op.set p (-1)) ((nth s.out j).p % 3).toNat = (j : Int) ∨ _
      rcases (g.n hd).2 with h2 | h2
      · by_cases hx2 : p = ((nth s.out j).p % 3).toNat
        · rw [← hx2] at h2
          rw [h2] at hjj
          simp at hjj
          exact absurd hjj.symm hjx
        · left; rw [nth_set_other hx2]; exact h2
      · exact .inr h2
  · rw [List.pairwise_iff_getElem]
    intro a b ha hb hab
    rw [hlen] at ha hb
    rw [← nth_eq (by rw [hlen]; exact ha), ← nth_eq (by rw [hlen]; exact hb)]
    have hp0 := List.pairwise_iff_getElem.1 h.rel a b ha hb hab
    rw [← nth_eq ha, ← nth_eq hb] at hp0
    by_cases ea : j0 = a
    · subst ea
      rw [same, oth b (by omega)]
      have gb := h.ops b hb
      have := gb.c0
      refine ⟨⟨hp0.1.1, fun _ => ⟨by show (s.time : Int) ≠ _; omega, fun hd => by show _ ≠ (s.time : Int); have := (gb.d hd).2; omega⟩, fun he => ?_⟩, hp0.2⟩
      have := (hp0.1.2.2 he).1
      rw [hdj] at this; cases this
    · by_cases eb : j0 = b
      · subst eb
        rw [same, oth a (by omega)]
        have ga := h.ops a ha
        exact ⟨⟨hp0.1.1, fun hd => ⟨(hp0.1.2.1 hd).1, fun _ => by show (s.time : Int) ≠ _; have := (ga.d hd).2; omega⟩, hp0.1.2.2⟩, hp0.2⟩
      · rw [oth a ea, oth b eb]
        exact hp0
theorem HInv.later {q : Bool} {i : Nat} {s : HS} (h : HInv q i s) : HInv q (i + 1) s :=
  ⟨h.o3, h.p3, h.e3, h.r3, h.n2, h.q2, Nat.le_succ_of_le h.ti, Nat.le_succ_of_le h.li, h.f1, Nat.le_succ_of_le h.fi, fun p hp => by have := h.pr p hp; omega, h.opn, h.neg, h.ops, h.rel⟩
theorem HInv.step {q : Bool} {i : Nat} {s : HS} (h : HInv q i s) (x : Int) : HInv q (i + 1) (hsStep q x s) := by
  unfold hsStep
  have hn : 0 ≤ around x 1000000 := around_lo (by decide)
  have hp : (around x 1000000 % 3).toNat < 3 := by omega
  split
  · rename_i hop
    exact h.open (by omega) hp hop
  · rename_i hop
    have h1 := h.effM (around x 1000000 % 3).toNat
    have he : (hsEffM (around x 1000000 % 3).toNat s).op = s.op := (hsEffM_same _ _).2.2.1
    unfold hsEnd
    split
    · exact h1.lost hp
    · split
      · exact h1.done hp (by rw [he]; omega)
      · exact h1.later
theorem hsTo_inv (q : Bool) (l : List Int) : ∀ i, HInv q i (hsTo q l i)
  | 0 => HInv.init q
  | i + 1 => (hsTo_inv q l i).step _

theorem hsW_01 {o : OpV} {q : Bool} (h : o.k = hsKind q 0 ∨ o.k = hsKind q 1) : (q = true ∧ (o.k = 3 ∨ o.k = 4)) ∨ (q = false ∧ (o.k = 0 ∨ o.k = 1)) := by
  cases q <;> simp [hsKind] at h <;> simp <;> omega
/-- the operations of a generated history -/
structure OpH (q : Bool) (o : OpV) : Prop where
  k : (q = true ∧ (o.k = 3 ∨ o.k = 4)) ∨ (q = false ∧ (o.k = 0 ∨ o.k = 1))
  key : 0 ≤ o.key ∧ o.key ≤ 1
  arg : 0 ≤ o.arg ∧ o.arg ≤ 60
  w : hsW o.k = true → 1 ≤ o.arg
  p : 0 ≤ o.p ∧ o.p ≤ 200
  call : 0 ≤ o.call ∧ o.call ≤ 60
  ret : 0 ≤ o.ret ∧ o.ret ≤ 60
theorem hsFix_same (t : Nat) (o : OpV) : (hsFix t o).p = o.p ∧ (hsFix t o).k = o.k ∧ (hsFix t o).key = o.key ∧ (hsFix t o).arg = o.arg ∧ (hsFix t o).res = o.res ∧ (hsFix t o).call = o.call ∧ (hsFix t o).done = o.done ∧ (o.done = true → (hsFix t o).ret = o.ret) ∧ (o.done = false → (hsFix t o).ret = t) := by
  unfold hsFix
  cases h : o.done <;> simp [h]
theorem histQ_len (q : Bool) (l : List Int) : (histQ q l).length ≤ 60 := by
  have := (hsTo_inv q l (min l.length 60)).li
  unfold histQ
  rw [List.length_map]
  omega
theorem histQ_op (q : Bool) (l : List Int) : ∀ o ∈ histQ q l, OpH q o := fun o ho => by
  obtain ⟨x, hx, rfl⟩ := List.mem_map.1 ho
  obtain ⟨j, hj, rfl⟩ := List.getElem_of_mem hx
  have h := hsTo_inv q l (min l.length 60)
  generalize hsTo q l (min l.length 60) = s at h hj
  have g := h.ops j hj
  rw [nth_eq hj] at g
  obtain ⟨e1, e2, e3, e4, e5, e6, e7, e8, e9⟩ := hsFix_same s.time s.out[j]
  have hp3 := h.pr (s.out[j].p % 3).toNat (by omega)
  have ht := h.ti
  have hf := h.fi
  refine ⟨by rw [e2]; exact hsW_01 g.k, by rw [e3]; exact g.key, by rw [e4]; have := g.arg; omega, by rw [e2, e4]; exact g.w, by rw [e1]; have := g.pp; have := g.p0; omega, by rw [e6]; have := g.c0; omega, ?_⟩
  cases hd : s.out[j].done with
  | true => rw [e8 hd]; have := g.d hd; have := g.c0; omega
  | false => rw [e9 hd]; omega
theorem histQ_wf (q : Bool) (l : List Int) : WFH (histQ q l) := by
  have h := hsTo_inv q l (min l.length 60)
  refine ⟨Nat.le_trans (histQ_len q l) (by decide), fun o ho => ?_, ?_⟩
  · have hO := histQ_op q l o ho
    obtain ⟨x, hx, rfl⟩ := List.mem_map.1 ho
    obtain ⟨j, hj, rfl⟩ := List.getElem_of_mem hx
    generalize hsTo q l (min l.length 60) = s at h hj hO ⊢
    have g := h.ops j hj
    rw [nth_eq hj] at g
    obtain ⟨e1, e2, e3, e4, e5, e6, e7, e8, e9⟩ := hsFix_same s.time s.out[j]
    have hk := hO.k
    simp only [wfB, Bool.and_eq_true, Bool.or_eq_true, decide_eq_true_eq]
    refine ⟨⟨⟨⟨⟨hO.p.1, by omega⟩, by omega⟩, hO.call.1⟩, ?_⟩, ?_⟩
    · rw [e6]
      cases hd : s.out[j].done with
      | true => rw [e8 hd]; exact (g.d hd).1
      | false => rw [e9 hd]; exact g.c0.2
    · rw [e7, e5]
      cases hd : s.out[j].done with
      | true => exact .inl rfl
      | false => exact .inr (g.n hd).1
  · unfold histQ
    generalize hsTo q l (min l.length 60) = s at h ⊢
    rw [List.pairwise_map]
    refine h.rel.imp fun {a b} hab => ?_
    obtain ⟨a1, a2, a3, a4, a5, a6, a7, a8, a9⟩ := hsFix_same s.time a
    obtain ⟨b1, b2, b3, b4, b5, b6, b7, b8, b9⟩ := hsFix_same s.time b
    obtain ⟨⟨h1, h2, h3⟩, _⟩ := hab
    refine ⟨by rw [a6, b6]; exact h1, fun hd => ?_, fun he => ?_⟩
    · rw [a7] at hd
      rw [a8 hd, b6, b7]
      exact ⟨(h2 hd).1, fun hd2 => by rw [b8 hd2]; exact (h2 hd).2 hd2⟩
    · rw [a1, b1] at he
      obtain ⟨h4, h5⟩ := h3 he
      rw [a7, a8 h4, b6]
      exact ⟨h4, h5⟩
/-- pushes, or writes, have increasing arguments -/
theorem histQ_args (q : Bool) (l : List Int) : (histQ q l).Pairwise fun a b => hsW a.k = true → hsW b.k = true → a.arg < b.arg := by
  have h := hsTo_inv q l (min l.length 60)
  unfold histQ
  generalize hsTo q l (min l.length 60) = s at h ⊢
  rw [List.pairwise_map]
  refine h.rel.imp fun {a b} hab => ?_
  obtain ⟨_, a2, _, a4, _⟩ := hsFix_same s.time a
  obtain ⟨_, b2, _, b4, _⟩ := hsFix_same s.time b
  rw [a2, a4, b2, b4]
  exact hab.2
end Go.Proofs.Ythijndjgchbeoaa
