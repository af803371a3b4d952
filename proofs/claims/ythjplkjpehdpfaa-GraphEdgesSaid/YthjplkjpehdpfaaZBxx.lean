/-
  A region on plain values: walked in the text's order, it is the same in whatever order the model draws.
-/
import Derived.Test.YthjplkjpehdpfaaZBx
import Derived.Orders
namespace Go.Proofs.Ythjplkjpehdpfaa
set_option linter.unusedVariables false
open Go.RowKit

structure Rec where
 o : Oper
 f : FV
 wr : List (Nat × zg)
 ft : List Nat
 deriving Inhabited

def FSt.aft (s : FSt) (r : Rec) : FSt := s.app r.o.dst r.f r.wr

def zgK : FV → Bool → Option Bool
 | .bool v, want => some (v == want)
 | .tup [], _ => some false
 | _, _ => none
theorem zdy {f : FV} {want b : Bool} (h : zgK f want = some b) : (∃ v, f = .bool v ∧ (v == want) = b) ∨ (f = .tup [] ∧ b = false) := by
 unfold zgK at h
 split at h
 ·injection h with h; exact .inl ⟨_, rfl, h⟩
 ·injection h with h; exact .inr ⟨rfl, h.symm⟩
 ·cases h
def zF (ops : Array Oper) (s : FSt) (o : Oper) (b : Bool) : Prop :=
 match o.guard with
 | none => b = true
 | some (j, want) => ∃ d v, (ops[j]?).bind (·.dst) = some d ∧ s.get d = v ∧ zgK v want = some b

inductive zey (c : Ctx) (ops : Array Oper) : FSt → List Oper → List Rec → FSt → Prop where
 | nil (s : FSt) : zey c ops s [] [] s
 | step {o : Oper} {rest : List Oper} {s s' : FSt} {f : FV} {wr : List (Nat × zg)} {tr : List Rec} {d : Nat} (hw : zF ops s o true) (hd : o.dst = some d ∨ (o.dst = none ∧ Uh o.op)) (hdN : ∀ d, o.dst = some d → d < c.N)
   (he : Eff c s d o.op f wr) (hs : zey c ops (s.app o.dst f wr) rest tr s') : zey c ops s (o :: rest) (⟨o, f, wr, xi s d o.op⟩ :: tr) s'
 | skip {o : Oper} {rest : List Oper} {s s' : FSt} {tr : List Rec} (hw : zF ops s o false) (hdN : ∀ d, o.dst = some d → d < c.N) (hs : zey c ops (s.app o.dst (.tup []) []) rest tr s') : zey c ops s (o :: rest) (⟨o, .tup [], [], []⟩ :: tr) s'

def zci (c : Ctx) (ops : Array Oper) (s : FSt) (r : Rec) : Prop :=
 (∀ d, r.o.dst = some d → d < c.N) ∧ ((zF ops s r.o true ∧ ∃ d, (r.o.dst = some d ∨ (r.o.dst = none ∧ Uh r.o.op)) ∧ Eff c s d r.o.op r.f r.wr ∧ r.ft = xi s d r.o.op) ∨ (zF ops s r.o false ∧ r.f = .tup [] ∧ r.wr = [] ∧ r.ft = []))

def sig (tr : List Rec) (s0 : FSt) (S : Nat → Bool) : Nat → FSt
 | 0 => s0
 | k + 1 => if S k then (sig tr s0 S k).aft (tr.getD k default) else sig tr s0 S k
theorem YP (r : Rec) (tr : List Rec) (s0 : FSt) (S : Nat → Bool) : ∀ k, sig (r :: tr) s0 S (k + 1) = sig tr (if S 0 then s0.aft r else s0) (fun j => S (j + 1)) k
 | 0 => by simp [sig]
 | k + 1 => by
  rw [sig, YP r tr s0 S k]
  simp [sig]

theorem zey.at {c : Ctx} {ops : Array Oper} {s : FSt} {l : List Oper} {tr : List Rec} {s' : FSt} (h : zey c ops s l tr s') : tr.length = l.length ∧ s' = sig tr s (fun _ => true) tr.length ∧
  ∀ k, k < l.length → (tr.getD k default).o = l.getD k default ∧ zci c ops (sig tr s (fun _ => true) k) (tr.getD k default) := by
 induction h with
 | nil s => exact ⟨rfl, rfl, fun k hk => by simp at hk⟩
 | @step o rest s s' f wr tr d hw hd hdN he hs ih =>
  obtain ⟨h1, h2, h3⟩ := ih
  refine ⟨by simp [h1], ?_, fun k hk => ?_⟩
  ·rw [List.length_cons, YP]; exact h2
  ·cases k with
   | zero => exact ⟨rfl, hdN, .inl ⟨hw, d, hd, he, rfl⟩⟩
   | succ k =>
    rw [YP]
    exact h3 k (by simpa using hk)
 | @skip o rest s s' tr hw hdN hs ih =>
  obtain ⟨h1, h2, h3⟩ := ih
  refine ⟨by simp [h1], ?_, fun k hk => ?_⟩
  ·rw [List.length_cons, YP]; exact h2
  ·cases k with
   | zero => exact ⟨rfl, hdN, .inr ⟨hw, rfl, rfl, rfl⟩⟩
   | succ k =>
    rw [YP]
    exact h3 k (by simpa using hk)

def zfM (r : Rec) (t : Nat) : Option FV := if r.o.dst = some t then some r.f else none
def ZW : List (Nat × zg) → Nat → Option zg
 | [], _ => none
 | p :: l, id => match ZW l id with | some b => some b | none => if p.1 = id then some p.2 else none
theorem zgd : ∀ (l : List (Nat × zg)) (s : FSt) (id : Nat), (s.wr l).ob id = (ZW l id).getD (s.ob id)
 | [], _, _ => rfl
 | p :: l, s, id => by
  show (FSt.wr (s.set p.1 p.2) l).ob id = _
  rw [zgd l, ZW, FSt.ob_set]
  cases ZW l id with
  | some b => rfl
  | none => by_cases h : p.1 = id <;> simp [h]
theorem YD : ∀ {l : List (Nat × zg)} {id : Nat}, (ZW l id).isSome → id ∈ l.map (·.1)
 | p :: l, id, h => by
  unfold ZW at h
  cases hl : ZW l id with
  | some b => exact List.mem_cons_of_mem _ (YD (by rw [hl]; rfl))
  | none =>
   rw [hl] at h
   dsimp only at h
   split at h
   ·rename_i e; subst e; simp
   ·simp at h
theorem zd8 (s : FSt) (r : Rec) (t : Nat) : (s.aft r).get t = (zfM r t).getD (s.get t) := by
 unfold FSt.aft FSt.app zfM
 cases h : r.o.dst with
 | none => simp [FSt.putD, FSt.wr_get]
 | some d =>
  simp only [FSt.putD, FSt.get_put, FSt.wr_get, Option.some.injEq]
  split <;> rfl
theorem zfF (s : FSt) (r : Rec) (id : Nat) : (s.aft r).ob id = (ZW r.wr id).getD (s.ob id) := by
 unfold FSt.aft FSt.app
 cases r.o.dst with
 | none => exact zgd _ _ _
 | some d => exact zgd _ _ _

section
variable {α : Type}
def zaT (u : Nat → Option α) (S : Nat → Bool) (x0 : α) : Nat → α
 | 0 => x0
 | k + 1 => if S k then (u k).getD (zaT u S x0 k) else zaT u S x0 k
theorem Zb (u : Nat → Option α) (S S' : Nat → Bool) (x0 : α) : ∀ n, (∀ k, k < n → (u k).isSome → S k = S' k) → zaT u S x0 n = zaT u S' x0 n
 | 0, _ => rfl
 | n + 1, h => by
  have ih := Zb u S S' x0 n (fun k hk => h k (by omega))
  have hn := h n (by omega)
  unfold zaT
  rw [ih]
  cases hu : u n with
  | none => simp
  | some v => rw [hn (by rw [hu]; rfl)]
theorem ZE (u : Nat → Option α) (S : Nat → Bool) (x0 : α) (m : Nat) : ∀ j, (∀ k, m ≤ k → k < m + j → S k = true → u k = none) → zaT u S x0 (m + j) = zaT u S x0 m
 | 0, _ => rfl
 | j + 1, h => by
  have ih := ZE u S x0 m j (fun k h1 h2 => h k h1 (by omega))
  rw [← Nat.add_assoc, zaT]
  split
  ·rename_i hS; rw [h (m + j) (by omega) (by omega) hS, ih]; rfl
  ·exact ih
theorem UF (u : Nat → Option α) (S : Nat → Bool) (x0 : α) (i : Nat) (hS : S i = false) : ∀ n, i < n → (∀ k, i < k → k < n → S k = true → (u k).isSome → u i = none) → zaT u (fun k => k == i || S k) x0 n = (u i).getD (zaT u S x0 n)
 | 0, h, _ => by omega
 | n + 1, hi, h => by
  by_cases hin : i = n
  ·subst hin
   unfold zaT
   simp only [beq_self_eq_true, Bool.true_or, if_true, hS, Bool.false_eq_true, if_false]
   congr 1
   refine Zb _ _ _ _ _ (fun k hk _ => ?_)
   have : (k == i) = false := by simp; omega
   rw [this]; rfl
  ·have ih := UF u S x0 i hS n (by omega) (fun k h1 h2 => h k h1 (by omega))
   have hn : (n == i) = false := by simp; omega
   unfold zaT
   rw [hn, Bool.false_or, ih]
   split
   ·rename_i hSn
    cases hu : u n with
    | none => rfl
    | some v =>
     have := h n (by omega) (by omega) hSn (by rw [hu]; rfl)
     rw [this]; rfl
   ·rfl
end
theorem Zn (tr : List Rec) (s0 : FSt) (S : Nat → Bool) (t : Nat) : ∀ k, (sig tr s0 S k).get t = zaT (fun k => zfM (tr.getD k default) t) S (s0.get t) k
 | 0 => rfl
 | k + 1 => by
  unfold sig zaT
  split
  ·rw [zd8, Zn tr s0 S t k]
  ·exact Zn tr s0 S t k
theorem YQ (tr : List Rec) (s0 : FSt) (S : Nat → Bool) (id : Nat) : ∀ k, (sig tr s0 S k).ob id = zaT (fun k => ZW (tr.getD k default).wr id) S (s0.ob id) k
 | 0 => rfl
 | k + 1 => by
  unfold sig zaT
  split
  ·rw [zfF, YQ tr s0 S id k]
  ·exact YQ tr s0 S id k

def zfs : List Oper → List (List Nat) → List (List Nat)
 | [], acc => acc
 | o :: l, acc => zfs l (acc ++ [o.after.toList.flatMap fun e => if Region.binds .any e then e.on :: acc.getD e.on [] else []])

def ZK (ops : Array Oper) (r q : Rec) : Bool :=
 r.o.apart ops q.o && (r.wr.all fun p => !q.ft.contains p.1 && !(q.wr.map (·.1)).contains p.1) && (q.wr.all fun p => !r.ft.contains p.1)
def zdW (ops : Array Oper) (tr : List Rec) (A : List (List Nat)) : Bool :=
 (List.range tr.length).all fun i => (List.range i).all fun j => (A.getD i []).contains j || ZK ops (tr.getD j default) (tr.getD i default)
def zdV (l : List Oper) : Bool := (List.range l.length).all fun i => (l.getD i default).after.toList.all fun e => !Region.binds .any e || decide (e.on < i)
def UC (ops : Array Oper) (tr : List Rec) : Bool := zdV ops.toList && zdW ops tr (zfs ops.toList [])

theorem zaX (S : Nat → Bool) : ∀ (l : List Oper) (acc : List (List Nat)), (∀ i, i < acc.length → S i = true → ∀ j ∈ acc.getD i [], S j = true) →
  (∀ k, k < l.length → S (acc.length + k) = true → ∀ e ∈ (l.getD k default).after.toList, Region.binds .any e = true → S e.on = true) → (∀ k, k < l.length → ∀ e ∈ (l.getD k default).after.toList, Region.binds .any e = true → e.on < acc.length + k) →
  ∀ i, i < acc.length + l.length → S i = true → ∀ j ∈ (zfs l acc).getD i [], S j = true
 | [], acc, ha, _, _, i, hi, hS, j, hj => ha i (by simpa using hi) hS j hj
 | o :: l, acc, ha, hl, hb, i, hi, hS, j, hj => by
  rw [zfs] at hj
  refine zaX S l _ (fun i hi hS j hj => ?_) (fun k hk hS e he hbn => ?_) (fun k hk e he hbn => ?_) i (by simp at hi ⊢; omega) hS j hj
  ·rcases Nat.lt_or_ge i acc.length with h | h
   ·rw [List.getD_eq_getElem?_getD, List.getElem?_append_left h, ← List.getD_eq_getElem?_getD] at hj
    exact ha i h hS j hj
   ·have hii : i = acc.length := by simp at hi; omega
    subst hii
    rw [List.getD_eq_getElem?_getD, List.getElem?_append_right (Nat.le_refl _), Nat.sub_self] at hj
    simp only [List.getElem?_cons_zero, Option.getD_some, List.mem_flatMap] at hj
    obtain ⟨e, he, hj⟩ := hj
    split at hj
    ·rename_i hbn
     have hon := hl 0 (by simp) (by simpa using hS) e he hbn
     rcases List.mem_cons.1 hj with h | h
     ·rw [h]; exact hon
     ·exact ha e.on (by have := hb 0 (by simp) e he hbn; omega) hon j h
    ·simp at hj
  ·refine hl (k + 1) (by simpa using hk) ?_ e he hbn
   simp only [List.length_append, List.length_cons, List.length_nil] at hS
   rwa [show acc.length + (k + 1) = acc.length + (0 + 1) + k by omega]
  ·have := hb (k + 1) (by simpa using hk) e he hbn
   simp; omega

theorem zcJ {ops : Array Oper} {o : Oper} {s s' : FSt} (h : ∀ t ∈ o.looksAt ops, s'.get t = s.get t) : ∀ x ∈ o.op.operands.toList, s'.ev x = s.ev x := by
 intro x hx
 cases x with
 | tmp t => exact h t (List.mem_append_left _ (List.mem_filterMap.2 ⟨.tmp t, hx, rfl⟩))
 | const v => rfl
 | global g => rfl
 | func f => rfl
theorem zF.loc {ops : Array Oper} {o : Oper} {s s' : FSt} {b : Bool} (hw : zF ops s o b) (h : ∀ t ∈ o.looksAt ops, s'.get t = s.get t) : zF ops s' o b := by
 unfold zF at *
 cases hg : o.guard with
 | none => rw [hg] at hw; exact hw
 | some p =>
  obtain ⟨j, want⟩ := p
  rw [hg] at hw
  obtain ⟨d, v, h1, h2, h3⟩ := hw
  refine ⟨d, v, h1, ?_, h3⟩
  rw [h d (List.mem_append_right _ (by simp [hg, h1]))]
  exact h2
theorem zci.loc {c : Ctx} {ops : Array Oper} {s s' : FSt} {r : Rec} (hr : zci c ops s r) (h : ∀ t ∈ r.o.looksAt ops, s'.get t = s.get t) (ho : ∀ id ∈ r.ft, s'.ob id = s.ob id) : zci c ops s' r := by
 obtain ⟨hN, hr⟩ := hr
 refine ⟨hN, ?_⟩
 have hev := zcJ h
 rcases hr with ⟨hw, d, hd, he, hf⟩ | ⟨hw, h1, h2, h3⟩
 ·refine .inl ⟨hw.loc h, d, hd, he.loc hev (by rw [← hf]; exact ho), ?_⟩
  rw [hf]
  unfold xi
  congr 2
  have key : ∀ l : List Operand, (∀ x ∈ l, s'.ev x = s.ev x) → (l.filterMap fun x => (s.ev x).hand.map (·.1)) = l.filterMap fun x => (s'.ev x).hand.map (·.1) := by
   intro l
   induction l with
   | nil => intro _; rfl
   | cons x l ih => intro h; rw [List.filterMap_cons, List.filterMap_cons, h x (by simp), ih (fun y hy => h y (by simp [hy]))]
  exact key _ hev
 ·exact .inr ⟨hw.loc h, h1, h2, h3⟩

section
variable {c : Ctx} {w0 : World} {J : JJ} {ops : Array Oper} {Q : Exit → Act → World → Prop}

theorem zF.model {s : FSt} {a : Act} {w : World} {β : Nat → Option Nat} (hF : FR c.N w0 J s a w β) {o : Oper} {b : Bool} (hw : zF ops s o b) : Region.wanted o (yielded ops a.tmps) = b := by
 unfold zF at hw
 unfold Region.wanted
 cases hg : o.guard with
 | none => rw [hg] at hw; rw [hw]
 | some p =>
  obtain ⟨j, want⟩ := p
  rw [hg] at hw
  obtain ⟨d, v, h1, h2, h3⟩ := hw
  rcases zdy h3 with ⟨v, rfl, h4⟩ | ⟨rfl, rfl⟩
  ·have hv : a.tmps.getD d undef = .bool v := hF.ev_bool (x := .tmp d) (b := v) h2
   have hy : yielded ops a.tmps j = some v := by
    unfold yielded
    rw [h1]
    simp only [Option.bind_some]
    rw [Array.getD_eq_getD_getElem?] at hv
    cases ha : a.tmps[d]? with
    | none => rw [ha] at hv; simp [undef] at hv
    | some u => rw [ha] at hv; simp only [Option.getD_some] at hv; rw [hv]
   simp only [hy]
   rw [← h4]
   cases v <;> cases want <;> rfl
  ·have hv : a.tmps.getD d undef = .tuple #[] := by
    have := hF.ev (.tmp d)
    rw [show s.ev (.tmp d) = .tup [] from h2] at this
    have := VR.rd this rfl
    have e : a.eval (.tmp d) = a.tmps.getD d undef := rfl
    rw [e] at this
    generalize a.tmps.getD d undef = v at this
    cases this with
    | tup us fs hl hr =>
     have : us = [] := by cases us with
      | nil => rfl
      | cons u us => simp at hl
     subst this
     rfl
   have hy : yielded ops a.tmps j = none := by
    unfold yielded
    rw [h1]
    simp only [Option.bind_some]
    rw [Array.getD_eq_getD_getElem?] at hv
    cases ha : a.tmps[d]? with
    | none => rfl
    | some u => rw [ha] at hv; simp only [Option.getD_some] at hv; rw [hv]
   simp only [hy]
   cases want <;> rfl

theorem zci.wpOp {s : FSt} {a : Act} {w : World} {β : Nat → Option Nat} (hF : FR c.N w0 J s a w β) {r : Rec} {i : Nat} (hi : ops[i]? = some r.o) (hr : zci c ops s r) {K : Act → World → Prop} (hK : ∀ a' w' β', FR c.N w0 J (s.aft r) a' w' β' → K a' w') :
  wpOp c.P ops Q i K a w := by
 obtain ⟨hN, hr⟩ := hr
 unfold Go.wpOp
 simp only [hi]
 rcases hr with ⟨hw, d, hd, he, hf⟩ | ⟨hw, h1, h2, h3⟩
 ·rw [if_pos (hw.model hF)]
  exact .inl (he.sound hF r.o rfl hd hN hK)
 ·rw [if_neg (by rw [hw.model hF]; decide)]
  refine hK _ _ β ?_
  unfold FSt.aft FSt.app
  rw [h1, h2]
  cases hd : r.o.dst with
  | none => exact hF
  | some d => exact hF.put (hN d hd) (VR.of_rd (Rd.tup [] [] rfl (by simp)) rfl) (fun id ver e => by cases e)

def zdj (S : Nat → Bool) : Nat → Nat
 | 0 => 0
 | k + 1 => zdj S k + if S k then 0 else 1
theorem zbO {S : Nat → Bool} {i : Nat} (hS : S i = false) : ∀ n, i < n → zdj (fun k => k == i || S k) n + 1 = zdj S n
 | 0, h => by omega
 | n + 1, h => by
  unfold zdj
  by_cases hin : i = n
  ·subst hin
   have key : ∀ m, m ≤ i → zdj (fun k => k == i || S k) m = zdj S m := by
    intro m
    induction m with
    | zero => intro _; rfl
    | succ m ih =>
     intro hm
     unfold zdj
     have : (m == i) = false := by simp; omega
     rw [ih (by omega), this]; rfl
   rw [key i (Nat.le_refl _), hS]
   simp
  ·have ih := zbO hS n (by omega)
   have : (n == i) = false := by simp; omega
   rw [this, Bool.false_or]
   omega
theorem UT {S : Nat → Bool} : ∀ n, zdj S n = 0 → ∀ k, k < n → S k = true
 | 0, _, k, hk => by omega
 | n + 1, h, k, hk => by
  unfold zdj at h
  by_cases hkn : k = n
  ·subst hkn
   cases hS : S k with
   | true => rfl
   | false => rw [hS] at h; simp at h
  ·exact UT n (by omega) k (by omega)

theorem zcY {s0 s' : FSt} {tr : List Rec} (hx : zey c ops s0 ops.toList tr s') (hok : UC ops tr = true) (hQ : ∀ a w β, FR c.N w0 J s' a w β → Q .normal a w) :
  ∀ (fuel : Nat) (listed : Array Bool) (a : Act) (w : World) (β : Nat → Option Nat), listed.size = ops.size → (∀ i, i < ops.size → listed.getD i false = true → ∀ e ∈ (ops.toList.getD i default).after.toList, Region.binds .any e = true → listed.getD e.on false = true) →
   zdj (fun k => listed.getD k false) ops.size ≤ fuel → FR c.N w0 J (sig tr s0 (fun k => listed.getD k false) ops.size) a w β → wpAny c.P .any ops Q fuel listed a w := by
 obtain ⟨hlen0, hs', hrec⟩ := hx.at
 have hlen : tr.length = ops.size := by rw [hlen0]; simp
 rw [Array.length_toList] at hrec
 unfold UC at hok
 rw [Bool.and_eq_true] at hok
 obtain ⟨hedge, hpairs⟩ := hok
 have hedge' : ∀ i, i < ops.size → ∀ e ∈ (ops.toList.getD i default).after.toList, Region.binds .any e = true → e.on < i := by
  intro i hi e he hb
  unfold zdV at hedge
  rw [List.all_eq_true] at hedge
  have := hedge i (by simpa using hi)
  rw [List.all_eq_true] at this
  have := this e he
  simpa [hb] using this
 have hpairs' : ∀ i, i < ops.size → ∀ j, j < i → j ∈ (zfs ops.toList []).getD i [] ∨ ZK ops (tr.getD j default) (tr.getD i default) = true := by
  intro i hi j hj
  unfold zdW at hpairs
  rw [List.all_eq_true] at hpairs
  have := hpairs i (by simp [hlen]; exact hi)
  rw [List.all_eq_true] at this
  have := this j (by simpa using hj)
  rw [Bool.or_eq_true] at this
  exact this.imp (fun h => by simpa using h) id
 have hget : ∀ (listed : Array Bool) (i : Nat), i < listed.size → listed.getD i true = listed.getD i false := fun listed i hi => by simp [hi]
 have hend : ∀ (listed : Array Bool) (a : Act) (w : World) (β : Nat → Option Nat), (∀ k, k < ops.size → listed.getD k false = true) → FR c.N w0 J (sig tr s0 (fun k => listed.getD k false) ops.size) a w β → Q .normal a w := by
  intro listed a w β hall hF
  refine hQ a w β (hF.ext (fun k => ?_) (fun k => ?_))
  ·rw [hs', hlen, Zn, Zn]
   exact Zb _ _ _ _ _ (fun k hk _ => (hall k hk).symm)
  ·rw [hs', hlen, YQ, YQ]
   exact Zb _ _ _ _ _ (fun k hk _ => (hall k hk).symm)
 have hnone : ∀ (listed : Array Bool), listed.size = ops.size → Region.ready .any ops listed = [] → ∀ k, k < ops.size → listed.getD k false = true := by
  intro listed hsz hr k
  induction k using Nat.strongRecOn with
  | _ k ih =>
   intro hk
   cases hl : listed.getD k false with
   | true => rfl
   | false =>
    exfalso
    have : k ∈ Region.ready .any ops listed := by
     rw [mem_ready]
     refine ⟨by rw [hget listed k (by omega)]; exact hl, ops.toList.getD k default, by simp [hk], fun e he hb => ?_⟩
     have hlt := hedge' k hk e (by simpa using he) hb
     exact ih e.on hlt (by omega)
    rw [hr] at this
    simp at this
 intro fuel
 induction fuel with
 | zero =>
  intro listed a w β hsz hclosed hcnt hF
  have hall := UT (S := fun k => listed.getD k false) ops.size (by omega)
  refine ⟨?_, hend listed a w β hall hF⟩
  cases hr : Region.ready .any ops listed with
  | nil => rfl
  | cons i l =>
   exfalso
   have : i ∈ Region.ready .any ops listed := by rw [hr]; simp
   rw [mem_ready] at this
   obtain ⟨h0, o, ho, _⟩ := this
   have hi : i < ops.size := (Array.getElem?_eq_some_iff.1 ho).1
   rw [hget listed i (by omega), hall i hi] at h0
   cases h0
 | succ fuel ih =>
  intro listed a w β hsz hclosed hcnt hF
  refine ⟨fun hr => hend listed a w β (hnone listed hsz hr) hF, fun i hi => ?_⟩
  rw [mem_ready] at hi
  obtain ⟨h0, o, ho, hall⟩ := hi
  have hilt : i < ops.size := (Array.getElem?_eq_some_iff.1 ho).1
  rw [hget listed i (by omega)] at h0
  have hoi : ops.toList.getD i default = o := by simp [List.getD_eq_getElem?_getD, ho]
  obtain ⟨hro, hrok⟩ := hrec i hilt
  rw [hoi] at hro
  have hclosed' : ∀ k, k < ops.size → (k == i || listed.getD k false) = true → ∀ e ∈ (ops.toList.getD k default).after.toList, Region.binds .any e = true → (e.on == i || listed.getD e.on false) = true := by
   intro k hk hS e he hb
   by_cases hki : k = i
   ·subst hki
    rw [hoi] at he
    rw [hall e (by simpa using he) hb, Bool.or_true]
   ·have : (k == i) = false := by simpa using hki
    rw [this, Bool.false_or] at hS
    rw [hclosed k hk hS e he hb, Bool.or_true]
  have hanc : ∀ j ∈ (zfs ops.toList []).getD i [], (j == i || listed.getD j false) = true :=
   zaX (fun k => k == i || listed.getD k false) ops.toList [] (fun i hi => by simp at hi) (fun k hk hS e he hb => hclosed' k (by simpa using hk) (by simpa using hS) e he hb) (fun k hk e he hb => by simpa using hedge' k (by simpa using hk) e he hb) i (by simpa using hilt) (by simp)
  have hancS : ∀ k, listed.getD k false = true → k < ops.size → ∀ j ∈ (zfs ops.toList []).getD k [], listed.getD j false = true := fun k hS hk =>
   zaX (fun k => listed.getD k false) ops.toList [] (fun i hi => by simp at hi) (fun k hk hS e he hb => hclosed k (by simpa using hk) (by simpa using hS) e he hb) (fun k hk e he hb => by simpa using hedge' k (by simpa using hk) e he hb) k (by simpa using hk) hS
  have hancLt : ∀ k, k < ops.size → ∀ j ∈ (zfs ops.toList []).getD k [], j < k ∨ j = k → True := fun _ _ _ _ _ => trivial
  have hbefore : ∀ k, k < i → ZK ops (tr.getD k default) (tr.getD i default) = true ∨ listed.getD k false = true := by
   intro k hk
   rcases hpairs' i hilt k hk with h | h
   ·have := hanc k h
    have hne : (k == i) = false := by simp; omega
    rw [hne, Bool.false_or] at this
    exact .inr this
   ·exact .inl h
  have hbehind : ∀ k, i < k → k < ops.size → listed.getD k false = true → ZK ops (tr.getD i default) (tr.getD k default) = true := by
   intro k hk hk2 hS
   rcases hpairs' k hk2 i hk with h | h
   ·rw [hancS k hS hk2 i h] at h0; cases h0
   ·exact h
  have hap : ∀ {r q : Rec}, ZK ops r q = true → (∀ d, r.o.dst = some d → d ∉ q.o.looksAt ops) ∧ (∀ d, r.o.dst = some d → q.o.dst ≠ some d) ∧ (∀ d, q.o.dst = some d → d ∉ r.o.looksAt ops) ∧
    (∀ id, (ZW r.wr id).isSome → id ∉ q.ft ∧ ZW q.wr id = none) ∧ (∀ id, (ZW q.wr id).isSome → id ∉ r.ft) := by
   intro r q h
   unfold ZK at h
   rw [Bool.and_eq_true, Bool.and_eq_true] at h
   obtain ⟨⟨h1, h2⟩, h3⟩ := h
   obtain ⟨k1, k2, k3⟩ := Oper.apart_spec h1
   rw [List.all_eq_true] at h2 h3
   refine ⟨k1, k2, k3, fun id hid => ?_, fun id hid => ?_⟩
   ·obtain ⟨p, hp, rfl⟩ := List.mem_map.1 (YD hid)
    have := h2 p hp
    rw [Bool.and_eq_true] at this
    refine ⟨by simpa using this.1, ?_⟩
    cases hl : ZW q.wr p.1 with
    | none => rfl
    | some b =>
     have hm := YD (l := q.wr) (id := p.1) (by rw [hl]; rfl)
     have h4 := this.2
     simp only [Bool.not_eq_true', List.contains_eq_mem, decide_eq_false_iff_not] at h4
     exact absurd hm h4
   ·obtain ⟨p, hp, rfl⟩ := List.mem_map.1 (YD hid)
    have := h3 p hp
    simpa using this
  have hslot : ∀ t ∈ (tr.getD i default).o.looksAt ops, (sig tr s0 (fun k => listed.getD k false) ops.size).get t = (sig tr s0 (fun _ => true) i).get t := by
   intro t ht
   rw [Zn, Zn]
   obtain ⟨m, hm⟩ : ∃ m, ops.size = i + m := ⟨ops.size - i, by omega⟩
   rw [hm, ZE _ _ _ i m]
   ·refine Zb _ _ _ _ _ (fun k hk hu => ?_)
    rcases hbefore k hk with h | h
    ·exfalso
     unfold zfM at hu
     split at hu
     ·rename_i hd; exact (hap h).1 t hd ht
     ·simp at hu
    ·exact h
   ·intro k hk1 hk2 hS
    rcases Nat.eq_or_lt_of_le hk1 with e | hlt
    ·subst e; rw [h0] at hS; cases hS
    ·unfold zfM
     rw [if_neg]
     intro hd
     exact (hap (hbehind k hlt (by omega) hS)).2.2.1 t hd ht
  have hobj : ∀ id ∈ (tr.getD i default).ft, (sig tr s0 (fun k => listed.getD k false) ops.size).ob id = (sig tr s0 (fun _ => true) i).ob id := by
   intro id hid
   rw [YQ, YQ]
   obtain ⟨m, hm⟩ : ∃ m, ops.size = i + m := ⟨ops.size - i, by omega⟩
   rw [hm, ZE _ _ _ i m]
   ·refine Zb _ _ _ _ _ (fun k hk hu => ?_)
    rcases hbefore k hk with h | h
    ·exact absurd hid ((hap h).2.2.2.1 id hu).1
    ·exact h
   ·intro k hk1 hk2 hS
    rcases Nat.eq_or_lt_of_le hk1 with e | hlt
    ·subst e; rw [h0] at hS; cases hS
    ·cases hl : ZW (tr.getD k default).wr id with
     | none => rfl
     | some b => exact absurd hid ((hap (hbehind k hlt (by omega) hS)).2.2.2.2 id (by rw [hl]; rfl))
  have hrok' := hrok.loc hslot hobj
  refine hrok'.wpOp hF (by rw [hro]; exact ho) (fun a' w' β' hF' => ?_)
  have hset : ∀ k, (listed.setIfInBounds i true).getD k false = (k == i || listed.getD k false) := by
   intro k
   by_cases hki : k = i
   ·subst hki
    have : k < listed.size := by omega
    simp [this]
   ·have hne : (k == i) = false := by simpa using hki
    rw [hne, Bool.false_or]
    simp [Array.getElem?_setIfInBounds_ne (fun e => hki e.symm)]
  have hfun : (fun k => (listed.setIfInBounds i true).getD k false) = (fun k => k == i || listed.getD k false) := funext hset
  refine ih _ a' w' β' (by simp [hsz]) (fun k hk hS e he hb => ?_) ?_ ?_
  ·rw [hset] at hS ⊢
   exact hclosed' k hk hS e he hb
  ·rw [hfun]
   have := zbO (S := fun k => listed.getD k false) h0 ops.size hilt
   omega
  ·rw [hfun]
   refine hF'.ext (fun t => ?_) (fun id => ?_)
   ·rw [zd8, Zn, Zn]
    refine UF _ _ _ i h0 ops.size hilt (fun k hk1 hk2 hS hu => ?_)
    cases hui : zfM (tr.getD i default) t with
    | none => rfl
    | some v =>
     exfalso
     unfold zfM at hu hui
     split at hui
     ·rename_i hd1
      split at hu
      ·rename_i hd2; exact (hap (hbehind k hk1 hk2 hS)).2.1 t hd1 hd2
      ·simp at hu
     ·cases hui
   ·rw [zfF, YQ, YQ]
    refine UF _ _ _ i h0 ops.size hilt (fun k hk1 hk2 hS hu => ?_)
    cases hui : ZW (tr.getD i default).wr id with
    | none => rfl
    | some v =>
     exfalso
     have := ((hap (hbehind k hk1 hk2 hS)).2.2.2.1 id (by rw [hui]; rfl)).2
     rw [this] at hu
     cases hu

theorem zaE {s0 s' : FSt} {tr : List Rec} (hx : zey c ops s0 ops.toList tr s') (hok : UC ops tr = true) (hQ : ∀ a w β, FR c.N w0 J s' a w β → Q .normal a w) {a : Act} {w : World} {β : Nat → Option Nat} (hF : FR c.N w0 J s0 a w β) :
  wpAny c.P .any ops Q ops.size (Array.replicate ops.size false) a { w with drawn := w.drawn + 1 } := by
 refine zcY hx hok hQ ops.size _ a _ β (by simp) (fun i hi hS => ?_) ?_ ?_
 ·have : (Array.replicate ops.size false).getD i false = false := by simp [hi]
  rw [this] at hS; cases hS
 ·have key : ∀ n, zdj (fun k => (Array.replicate ops.size false).getD k false) n ≤ n := by
   intro n
   induction n with
   | zero => exact Nat.le_refl _
   | succ n ih => unfold zdj; split <;> omega
  exact key _
 ·have hD : FR c.N w0 J s0 a { w with drawn := w.drawn + 1 } β := hF.grow ⟨rfl, rfl, rfl, Nat.le_refl _, fun _ _ => rfl⟩
  refine hD.ext (fun t => ?_) (fun id => ?_)
  ·have key := ZE (fun k => zfM (tr.getD k default) t) (fun k => (Array.replicate ops.size false).getD k false) (s0.get t) 0 ops.size (fun k _ hk hS => by
    have : (Array.replicate ops.size false).getD k false = false := by
     rw [Array.getD_eq_getD_getElem?]; cases h : (Array.replicate ops.size false)[k]? with
     | none => rfl
     | some b => rw [Array.getElem?_replicate] at h; split at h <;> simp_all
    rw [this] at hS; cases hS)
   rw [Nat.zero_add] at key
   rw [Zn, key]; rfl
  ·have key := ZE (fun k => ZW (tr.getD k default).wr id) (fun k => (Array.replicate ops.size false).getD k false) (s0.ob id) 0 ops.size (fun k _ hk hS => by
    have : (Array.replicate ops.size false).getD k false = false := by
     rw [Array.getD_eq_getD_getElem?]; cases h : (Array.replicate ops.size false)[k]? with
     | none => rfl
     | some b => rw [Array.getElem?_replicate] at h; split at h <;> simp_all
    rw [this] at hS; cases hS)
   rw [Nat.zero_add] at key
   rw [YQ, key]; rfl

end
end Go.Proofs.Ythjplkjpehdpfaa
