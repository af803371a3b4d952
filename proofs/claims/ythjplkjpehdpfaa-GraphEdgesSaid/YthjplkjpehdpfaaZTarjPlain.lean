/-
  Tarjan's way to the strongly connected components, in plain Lean.
-/
import Derived.Test.YthjplkjpehdpfaaZA
namespace Go.Proofs.Ythjplkjpehdpfaa
set_option linter.unusedVariables false

structure TjS where
 idx : List Nat
 low : List Nat
 on : List Bool
 st : List Nat
 out : List (List Nat)
 cnt : Nat
def YR (s : TjS) (v : Nat) : TjS := ⟨s.idx.set v (s.cnt + 1), s.low.set v (s.cnt + 1), s.on.set v true, s.st ++ [v], s.out, s.cnt + 1⟩
def zfL (s : TjS) (v x : Nat) : TjS := { s with low := s.low.set v (min (nth s.low v) x) }
def clr (on : List Bool) (c : List Nat) : List Bool := c.foldl (fun o w => o.set w false) on
def zgH (srt : List Nat → List Nat) (s : TjS) (v : Nat) : TjS := ⟨s.idx, s.low, clr s.on (s.st.drop (s.st.idxOf v)), s.st.take (s.st.idxOf v), s.out ++ [srt (s.st.drop (s.st.idxOf v))], s.cnt⟩
def Uc (srt : List Nat → List Nat) (s : TjS) (v : Nat) : TjS := if nth s.low v < nth s.idx v then s else zgH srt s v
def XH (rec_ : TjS → Nat → TjS) (v : Nat) (s : TjS) (w : Nat) : TjS :=
 if nth s.idx w = 0 then zfL (rec_ s w) v (nth (rec_ s w).low w) else if nth s.on w = true then zfL s v (nth s.idx w) else s
def tv (nx : Nat → List Nat) (srt : List Nat → List Nat) : Nat → TjS → Nat → TjS
 | 0, s, _ => s
 | k + 1, s, v => Uc srt ((nx v).foldl (XH (tv nx srt k) v) (YR s v)) v

theorem za1 : ∀ (c : List Nat) (on : List Bool), (clr on c).length = on.length
 | [], _ => rfl
 | w :: c, on => by show (clr (on.set w false) c).length = _; rw [za1 c, List.length_set]
theorem zdr : ∀ (c : List Nat) (on : List Bool) {x : Nat}, x < on.length → (nth (clr on c) x = true ↔ nth on x = true ∧ x ∉ c)
 | [], on, x, _ => by show nth on x = true ↔ _; simp
 | w :: c, on, x, hx => by
  show nth (clr (on.set w false) c) x = true ↔ _
  rw [zdr c _ (by rw [List.length_set]; exact hx)]
  by_cases e : w = x
  ·subst e; rw [zx hx]; simp
  ·rw [zq e, List.mem_cons]
   constructor
   ·rintro ⟨h1, h2⟩; exact ⟨h1, fun h => h.elim (fun e2 => e e2.symm) h2⟩
   ·rintro ⟨h1, h2⟩; exact ⟨h1, fun h => h2 (.inr h)⟩

section
variable {nx : Nat → List Nat} {srt : List Nat → List Nat} {n : Nat}
inductive Rr (nx : Nat → List Nat) : Nat → Nat → Prop where
 | refl (a : Nat) : Rr nx a a
 | tail {a b c : Nat} (h : Rr nx a b) (e : c ∈ nx b) : Rr nx a c
theorem Rr.one {a b : Nat} (h : b ∈ nx a) : Rr nx a b := .tail (.refl a) h
theorem Rr.trans {a b c : Nat} (h : Rr nx a b) (k : Rr nx b c) : Rr nx a c := by
 induction k with
 | refl => exact h
 | tail _ e ih => exact .tail ih e
open Classical in
noncomputable def xI (nx : Nat → List Nat) (n a : Nat) : List Nat := (List.range n).filter fun b => decide (Rr nx a b ∧ Rr nx b a)
open Classical in
theorem WS {a b : Nat} : b ∈ xI nx n a ↔ b < n ∧ Rr nx a b ∧ Rr nx b a := by
 unfold xI; rw [List.mem_filter, List.mem_range, decide_eq_true_iff]
open Classical in
theorem zb7 {a b : Nat} (h : Rr nx a b) (k : Rr nx b a) : xI nx n b = xI nx n a := by
 unfold xI
 refine List.filter_congr fun x _ => decide_eq_decide.2 ?_
 exact ⟨fun ⟨p, q⟩ => ⟨h.trans p, q.trans k⟩, fun ⟨p, q⟩ => ⟨k.trans p, q.trans h⟩⟩
theorem zbD {l m : List Nat} (hl : l.Pairwise (· ≤ ·)) (hm : m.Pairwise (· ≤ ·)) (hp : l.Perm m) : l = m :=
 hp.eq_of_pairwise (fun a b _ _ h1 h2 => Nat.le_antisymm h1 h2) hl hm

def unv (s : TjS) : Nat := s.idx.countP fun x => decide (x = 0)
structure UP (nx : Nat → List Nat) (n : Nat) (s : TjS) (G : List Nat) : Prop where
 li : s.idx.length = n
 ll : s.low.length = n
 lo : s.on.length = n
 cb : ∀ v, nth s.idx v ≤ s.cnt
 sn : ∀ v ∈ s.st, v < n ∧ nth s.idx v ≠ 0
 so : ∀ v, v < n → (nth s.on v = true ↔ v ∈ s.st)
 ss : s.st.Pairwise fun a b => nth s.idx a < nth s.idx b
 vo : ∀ v, v < n → nth s.idx v ≠ 0 → v ∉ s.st → ∃ c ∈ s.out, v ∈ c
 oo : ∀ c ∈ s.out, c ≠ [] ∧ ∀ a ∈ c, a < n ∧ nth s.idx a ≠ 0 ∧ a ∉ s.st ∧ c = xI nx n a
 nd : s.out.Nodup
 oc : ∀ c ∈ s.out, ∀ a ∈ c, ∀ w ∈ nx a, nth s.idx w ≠ 0 ∧ w ∉ s.st
 bl : ∀ v, v < n → nth s.idx v ≠ 0 → v ∉ G → ∀ w ∈ nx v, nth s.idx w ≠ 0
 gs : ∀ g ∈ G, g ∈ s.st
 gr : ∀ g ∈ G, ∀ y ∈ s.st, nth s.idx g ≤ nth s.idx y → Rr nx g y
 sg : ∀ y ∈ s.st, ∃ g ∈ G, nth s.idx g ≤ nth s.idx y ∧ Rr nx y g
 ol : s.out.length + s.st.length ≤ s.cnt
 cu : s.cnt + unv s = n
structure zeD (nx : Nat → List Nat) (n : Nat) (s : TjS) (G : List Nat) (v : Nat) (s' : TjS) : Prop where
 inv : UP nx n s' G
 ix : ∀ x, nth s.idx x ≠ 0 → nth s'.idx x = nth s.idx x
 cn : s.cnt < nth s'.idx v
 cm : s.cnt ≤ s'.cnt
 st : ∃ e, s'.st = s.st ++ e ∧ ∀ x ∈ e, s.cnt < nth s'.idx x
 lw : ∀ x, nth s.idx x ≠ 0 → nth s'.low x = nth s.low x
 lv : (nth s'.low v = nth s'.idx v ∧ s'.st = s.st) ∨ (nth s'.low v < nth s'.idx v ∧ v ∈ s'.st ∧ ∃ y ∈ s.st, nth s'.idx y = nth s'.low v ∧ Rr nx v y)
 cr : ∀ x ∈ s'.st, s.cnt < nth s'.idx x → ∀ w ∈ nx x, w ∈ s.st → nth s'.low v ≤ nth s'.idx w
structure XN (nx : Nat → List Nat) (n : Nat) (s0 : TjS) (G : List Nat) (v : Nat) (P : List Nat) (s : TjS) : Prop where
 inv : UP nx n s (G ++ [v])
 ix : ∀ x, nth s0.idx x ≠ 0 → nth s.idx x = nth s0.idx x
 iv : nth s.idx v = s0.cnt + 1
 cm : s0.cnt + 1 ≤ s.cnt
 st : ∃ e, s.st = s0.st ++ v :: e ∧ ∀ x ∈ e, s0.cnt + 1 < nth s.idx x
 lw : ∀ x, nth s0.idx x ≠ 0 → nth s.low x = nth s0.low x
 l1 : nth s.low v ≤ nth s.idx v
 l2 : ∃ y ∈ s.st, nth s.idx y = nth s.low v ∧ Rr nx v y
 l3 : ∀ x ∈ s.st, s0.cnt + 1 < nth s.idx x → ∀ w ∈ nx x, w ∈ s0.st → nth s.low v ≤ nth s.idx w
 l4 : ∀ w ∈ P, nth s.idx w ≠ 0 ∧ (w ∈ s0.st → nth s.low v ≤ nth s.idx w)

theorem zgC {s s' : TjS} (hl : s'.idx.length = s.idx.length) (h : ∀ x, nth s.idx x ≠ 0 → nth s'.idx x = nth s.idx x) : unv s' ≤ unv s := by
 unfold unv
 have key : ∀ (a b : List Nat), b.length = a.length → (∀ x, nth a x ≠ 0 → nth b x = nth a x) → (b.countP fun x => decide (x = 0)) ≤ a.countP fun x => decide (x = 0) := by
  intro a
  induction a with
  | nil => intro b hb _; rw [List.eq_nil_of_length_eq_zero hb]; exact Nat.le_refl _
  | cons x a ih =>
   intro b hb h
   cases b with
   | nil => simp at hb
   | cons y b =>
    have := ih b (by simpa using hb) fun i hi => h (i + 1) hi
    rw [List.countP_cons, List.countP_cons]
    have h0 : x ≠ 0 → y = x := h 0
    by_cases hx : x = 0
    ·simp only [hx, decide_true, if_true]; split <;> omega
    ·have hy : y ≠ 0 := by rw [h0 hx]; exact hx
     simp [hx, hy, this]
 exact key _ _ hl h
theorem WY {s : TjS} {v c : Nat} (hv : v < s.idx.length) (h : nth s.idx v = 0) (hc : c ≠ 0) : (s.idx.set v c).countP (fun x => decide (x = 0)) + 1 = unv s := by
 unfold unv
 generalize s.idx = a at hv h
 induction a generalizing v with
 | nil => simp at hv
 | cons x a ih =>
  cases v with
  | zero =>
   have : x = 0 := h
   subst this
   simp [hc]
  | succ v =>
   have := ih (v := v) (by simpa using hv) h
   simp only [List.set_cons_succ, List.countP_cons]
   omega
theorem UP.low {s : TjS} {G : List Nat} (h : UP nx n s G) (v x : Nat) : UP nx n (zfL s v x) G :=
 ⟨h.li, by unfold zfL; rw [List.length_set]; exact h.ll, h.lo, h.cb, h.sn, h.so, h.ss, h.vo, h.oo, h.nd, h.oc, h.bl, h.gs, h.gr, h.sg, h.ol, h.cu⟩
theorem UP.old {s : TjS} {G : List Nat} (h : UP nx n s G) {x : Nat} (hx : x ∈ s.st) : nth s.idx x ≠ 0 := (h.sn x hx).2

theorem zer {s : TjS} {G : List Nat} {v : Nat} (h : UP nx n s G) (hv : v < n) (h0 : nth s.idx v = 0) (hg : ∀ g ∈ G, Rr nx g v) : XN nx n s G v [] (YR s v) := by
 have hin : ∀ x, x ≠ v → nth (s.idx.set v (s.cnt + 1)) x = nth s.idx x := fun x hx => zq fun e => hx e.symm
 have hiv : nth (s.idx.set v (s.cnt + 1)) v = s.cnt + 1 := zx (by rw [h.li]; exact hv)
 have hne : ∀ x, nth s.idx x ≠ 0 → x ≠ v := fun x hx e => hx (by rw [e]; exact h0)
 have hix : ∀ x, nth s.idx x ≠ 0 → nth (s.idx.set v (s.cnt + 1)) x = nth s.idx x := fun x hx => hin x (hne x hx)
 have hnz : ∀ x, nth s.idx x ≠ 0 → nth (s.idx.set v (s.cnt + 1)) x ≠ 0 := fun x hx => by rw [hix x hx]; exact hx
 have hvs : v ∉ s.st := fun hm => h.old hm h0
 refine ⟨?_, hix, hiv, Nat.le_refl _, ⟨[], rfl, fun x hx => by cases hx⟩, fun x hx => zq fun e => hne x hx e.symm, ?_, ?_, ?_, fun w hw => by cases hw⟩
 ·refine ⟨by show (s.idx.set _ _).length = n; rw [List.length_set]; exact h.li, by show (s.low.set _ _).length = n; rw [List.length_set]; exact h.ll, by show (s.on.set _ _).length = n; rw [List.length_set]; exact h.lo, fun x => ?_, fun x hx => ?_, fun x hx => ?_, ?_, fun x hx hz hs => ?_, fun c hc => ?_, h.nd, fun c hc a ha w hw => ?_, fun x hx hz hG w hw => ?_, fun g hg2 => ?_, fun g hg2 y hy hle => ?_, fun y hy => ?_, ?_, ?_⟩
  ·show nth (s.idx.set v (s.cnt + 1)) x ≤ s.cnt + 1
   by_cases e : x = v
   ·rw [e, hiv]; exact Nat.le_refl _
   ·rw [hin x e]; have := h.cb x; omega
  ·rcases List.mem_append.1 hx with hx | hx
   ·exact ⟨(h.sn x hx).1, hnz x (h.old hx)⟩
   ·rw [List.mem_singleton.1 hx]; exact ⟨hv, by show nth (s.idx.set v (s.cnt + 1)) v ≠ 0; rw [hiv]; omega⟩
  ·show nth (s.on.set v true) x = true ↔ x ∈ s.st ++ [v]
   rw [List.mem_append, List.mem_singleton]
   by_cases e : v = x
   ·subst e; rw [zx (by rw [h.lo]; exact hv)]; simp
   ·rw [zq e, h.so x hx]
    exact ⟨.inl, fun h => h.resolve_right fun e2 => e e2.symm⟩
  ·show (s.st ++ [v]).Pairwise _
   rw [List.pairwise_append]
   refine ⟨h.ss.imp_of_mem fun {a b} ha hb hab => ?_, List.pairwise_singleton _ _, fun a ha b hb => ?_⟩
   ·show nth (s.idx.set v (s.cnt + 1)) a < nth (s.idx.set v (s.cnt + 1)) b
    rw [hix a (h.old ha), hix b (h.old hb)]; exact hab
   ·show nth (s.idx.set v (s.cnt + 1)) a < nth (s.idx.set v (s.cnt + 1)) b
    rw [List.mem_singleton.1 hb, hiv, hix a (h.old ha)]; have := h.cb a; omega
  ·have hs' : x ∉ s.st ++ [v] := hs
   rw [List.mem_append, List.mem_singleton] at hs'
   have e : x ≠ v := fun e => hs' (.inr e)
   have hz' : nth (s.idx.set v (s.cnt + 1)) x ≠ 0 := hz
   rw [hin x e] at hz'
   exact h.vo x hx hz' fun hm => hs' (.inl hm)
  ·obtain ⟨c1, c2⟩ := h.oo c hc
   refine ⟨c1, fun a ha => ?_⟩
   obtain ⟨a1, a2, a3, a4⟩ := c2 a ha
   refine ⟨a1, hnz a a2, fun hm => ?_, a4⟩
   rcases List.mem_append.1 hm with hm | hm
   ·exact a3 hm
   ·exact hne a a2 (List.mem_singleton.1 hm)
  ·obtain ⟨w1, w2⟩ := h.oc c hc a ha w hw
   refine ⟨hnz w w1, fun hm => ?_⟩
   rcases List.mem_append.1 hm with hm | hm
   ·exact w2 hm
   ·exact hne w w1 (List.mem_singleton.1 hm)
  ·have e : x ≠ v := fun e => hG (by rw [e]; simp)
   have hz' : nth (s.idx.set v (s.cnt + 1)) x ≠ 0 := hz
   rw [hin x e] at hz'
   exact hnz w (h.bl x hx hz' (fun hm => hG (List.mem_append_left _ hm)) w hw)
  ·rcases List.mem_append.1 hg2 with hm | hm
   ·exact List.mem_append_left _ (h.gs g hm)
   ·rw [List.mem_singleton.1 hm]; exact List.mem_append_right _ (List.mem_singleton.2 rfl)
  ·have hle' : nth (s.idx.set v (s.cnt + 1)) g ≤ nth (s.idx.set v (s.cnt + 1)) y := hle
   rcases List.mem_append.1 hg2 with hm | hm
   ·rcases List.mem_append.1 hy with hy | hy
    ·rw [hix g (h.old (h.gs g hm)), hix y (h.old hy)] at hle'
     exact h.gr g hm y hy hle'
    ·rw [List.mem_singleton.1 hy]; exact hg g hm
   ·rw [List.mem_singleton.1 hm] at hle' ⊢
    rcases List.mem_append.1 hy with hy | hy
    ·rw [hiv, hix y (h.old hy)] at hle'
     have := h.cb y; omega
    ·rw [List.mem_singleton.1 hy]; exact .refl v
  ·rcases List.mem_append.1 hy with hy | hy
   ·obtain ⟨g, g1, g2, g3⟩ := h.sg y hy
    refine ⟨g, List.mem_append_left _ g1, ?_, g3⟩
    show nth (s.idx.set v (s.cnt + 1)) g ≤ nth (s.idx.set v (s.cnt + 1)) y
    rw [hix g (h.old (h.gs g g1)), hix y (h.old hy)]; exact g2
   ·rw [List.mem_singleton.1 hy]
    exact ⟨v, by simp, Nat.le_refl _, .refl v⟩
  ·show s.out.length + (s.st ++ [v]).length ≤ s.cnt + 1
   have := h.ol
   rw [List.length_append, List.length_singleton]; omega
  ·show s.cnt + 1 + (s.idx.set v (s.cnt + 1)).countP (fun x => decide (x = 0)) = n
   have := WY (s := s) (v := v) (c := s.cnt + 1) (by rw [h.li]; exact hv) h0 (by omega)
   have := h.cu
   omega
 ·show nth (s.low.set v (s.cnt + 1)) v ≤ nth (s.idx.set v (s.cnt + 1)) v
  rw [hiv, zx (by rw [h.ll]; exact hv)]; exact Nat.le_refl _
 ·refine ⟨v, List.mem_append_right _ (List.mem_singleton.2 rfl), ?_, .refl v⟩
  show nth (s.idx.set v (s.cnt + 1)) v = nth (s.low.set v (s.cnt + 1)) v
  rw [hiv, zx (by rw [h.ll]; exact hv)]
 ·intro x hx hlt
  have hlt' : s.cnt + 1 < nth (s.idx.set v (s.cnt + 1)) x := hlt
  exfalso
  rcases List.mem_append.1 hx with hx | hx
  ·rw [hix x (h.old hx)] at hlt'
   have := h.cb x; omega
  ·rw [List.mem_singleton.1 hx, hiv] at hlt'; omega

theorem XN.sub {s0 s : TjS} {G P : List Nat} {v : Nat} (L : XN nx n s0 G v P s) {x : Nat} (hx : x ∈ s0.st) : x ∈ s.st := by
 obtain ⟨e, he, _⟩ := L.st; rw [he]; exact List.mem_append_left _ hx
theorem XN.vin {s0 s : TjS} {G P : List Nat} {v : Nat} (L : XN nx n s0 G v P s) : v ∈ s.st := by
 obtain ⟨e, he, _⟩ := L.st; rw [he]; simp
theorem zgz {s0 s : TjS} {G P : List Nat} {v w : Nat} {rc : TjS → Nat → TjS} (h0 : UP nx n s0 G) (hv : v < n) (hv0 : nth s0.idx v = 0) (L : XN nx n s0 G v P s) (hw : w ∈ nx v) (hwn : w < n) (hrc : nth s.idx w = 0 → (∀ g ∈ G ++ [v], Rr nx g w) → zeD nx n s (G ++ [v]) w (rc s w)) :
  XN nx n s0 G v (P ++ [w]) (XH rc v s w) := by
 have hvl : v < s.low.length := by rw [L.inv.ll]; exact hv
 have hne : ∀ x, nth s0.idx x ≠ 0 → v ≠ x := fun x hx e => hx (by rw [← e]; exact hv0)
 have hvs := L.vin
 unfold XH
 split
 ·rename_i hz
  have T := hrc hz fun g hg => by
   rcases List.mem_append.1 hg with hm | hm
   ·refine .tail (L.inv.gr g hg v hvs ?_) hw
    have := L.ix g (h0.old (h0.gs g hm))
    have := h0.cb g
    have := L.iv
    omega
   ·rw [List.mem_singleton.1 hm]; exact .one hw
  generalize rc s w = t at T
  have hiv : nth t.idx v = nth s.idx v := T.ix v (by rw [L.iv]; omega)
  have hlv : nth t.low v = nth s.low v := T.lw v (by rw [L.iv]; omega)
  have hvl' : v < t.low.length := by rw [T.inv.ll]; exact hv
  have hlow : nth (zfL t v (nth t.low w)).low v = min (nth s.low v) (nth t.low w) := by
   show nth (t.low.set v _) v = _
   rw [zx hvl', hlv]
  have hix : ∀ x, nth s0.idx x ≠ 0 → nth t.idx x = nth s0.idx x := fun x hx => by
   have := L.ix x hx
   rw [T.ix x (by rw [this]; exact hx), this]
  obtain ⟨e, he, he2⟩ := L.st
  obtain ⟨f, hf, hf2⟩ := T.st
  refine ⟨T.inv.low _ _, hix, by show nth t.idx v = _; rw [hiv]; exact L.iv, by show _ ≤ t.cnt; have := L.cm; have := T.cm; omega, ⟨e ++ f, ?_, fun x hx => ?_⟩, fun x hx => ?_, ?_, ?_, ?_, ?_⟩
  ·show t.st = _
   rw [hf, he]; simp
  ·show s0.cnt + 1 < nth t.idx x
   rcases List.mem_append.1 hx with hx | hx
   ·have h1 := he2 x hx
    rw [T.ix x (by omega)]; exact h1
   ·have := hf2 x hx
    have := L.cm
    omega
  ·show nth (t.low.set v _) x = _
   rw [zq (hne x hx), T.lw x (by rw [L.ix x hx]; exact hx)]
   exact L.lw x hx
  ·rw [hlow]
   show _ ≤ nth t.idx v
   rw [hiv]
   exact Nat.le_trans (Nat.min_le_left _ _) L.l1
  ·rw [hlow]
   obtain ⟨y, y1, y2, y3⟩ := L.l2
   have hy : nth t.idx y = nth s.idx y := T.ix y (L.inv.old y1)
   have l1 := L.l1
   rcases T.lv with ⟨a1, a2⟩ | ⟨a1, a2, z, z1, z2, z3⟩
   ·refine ⟨y, by show y ∈ t.st; rw [hf]; exact List.mem_append_left _ y1, ?_, y3⟩
    show nth t.idx y = _
    have := T.cn
    have := L.inv.cb v
    rw [hy, y2, a1]; omega
   ·by_cases hm : nth s.low v ≤ nth t.low w
    ·refine ⟨y, by show y ∈ t.st; rw [hf]; exact List.mem_append_left _ y1, ?_, y3⟩
     show nth t.idx y = _
     rw [hy, y2]; omega
    ·refine ⟨z, by show z ∈ t.st; rw [hf]; exact List.mem_append_left _ z1, ?_, (Rr.one hw).trans z3⟩
     show nth t.idx z = _
     rw [z2]; omega
  ·intro x hx hlt u hu hus
   rw [hlow]
   show _ ≤ nth t.idx u
   have hx' : x ∈ t.st := hx
   have hlt' : s0.cnt + 1 < nth t.idx x := hlt
   have hui : nth t.idx u = nth s.idx u := T.ix u (L.inv.old (L.sub hus))
   by_cases hxs : x ∈ s.st
   ·rw [T.ix x (L.inv.old hxs)] at hlt'
    have := L.l3 x hxs hlt' u hu hus
    omega
   ·have hxf : x ∈ f := by
     rw [hf] at hx'
     exact (List.mem_append.1 hx').resolve_left hxs
    have := T.cr x hx' (hf2 x hxf) u hu (L.sub hus)
    omega
  ·intro u hu
   rw [hlow]
   show nth t.idx u ≠ 0 ∧ (_ → _ ≤ nth t.idx u)
   rcases List.mem_append.1 hu with hu | hu
   ·obtain ⟨u1, u2⟩ := L.l4 u hu
    rw [T.ix u u1]
    exact ⟨u1, fun hs => by have := u2 hs; omega⟩
   ·rw [List.mem_singleton.1 hu]
    refine ⟨by have := T.cn; omega, fun hs => ?_⟩
    exact absurd hz (L.inv.old (L.sub hs))
 ·rename_i hz
  split
  ·rename_i hon
   have hws := (L.inv.so w hwn).1 hon
   have hlow : nth (zfL s v (nth s.idx w)).low v = min (nth s.low v) (nth s.idx w) := by
    show nth (s.low.set v _) v = _
    rw [zx hvl]
   refine ⟨L.inv.low _ _, L.ix, L.iv, L.cm, L.st, fun x hx => ?_, ?_, ?_, ?_, ?_⟩
   ·show nth (s.low.set v _) x = _
    rw [zq (hne x hx)]; exact L.lw x hx
   ·rw [hlow]; exact Nat.le_trans (Nat.min_le_left _ _) L.l1
   ·rw [hlow]
    obtain ⟨y, y1, y2, y3⟩ := L.l2
    by_cases hm : nth s.low v ≤ nth s.idx w
    ·exact ⟨y, y1, by show nth s.idx y = _; rw [y2]; omega, y3⟩
    ·exact ⟨w, hws, by show nth s.idx w = _; omega, .one hw⟩
   ·intro x hx hlt u hu hus
    rw [hlow]
    have := L.l3 x hx hlt u hu hus
    show _ ≤ nth s.idx u
    omega
   ·intro u hu
    rw [hlow]
    show nth s.idx u ≠ 0 ∧ (_ → _ ≤ nth s.idx u)
    rcases List.mem_append.1 hu with hu | hu
    ·obtain ⟨u1, u2⟩ := L.l4 u hu
     exact ⟨u1, fun hs => by have := u2 hs; omega⟩
    ·rw [List.mem_singleton.1 hu]
     exact ⟨hz, fun _ => Nat.min_le_right _ _⟩
  ·rename_i hon
   refine ⟨L.inv, L.ix, L.iv, L.cm, L.st, L.lw, L.l1, L.l2, L.l3, fun u hu => ?_⟩
   rcases List.mem_append.1 hu with hu | hu
   ·exact L.l4 u hu
   ·rw [List.mem_singleton.1 hu]
    exact ⟨hz, fun hs => absurd ((L.inv.so w hwn).2 (L.sub hs)) hon⟩

theorem zbE {s0 s : TjS} {G : List Nat} {v : Nat} (hsrt : ∀ l : List Nat, (srt l).Perm l ∧ (srt l).Pairwise (· ≤ ·)) (h0 : UP nx n s0 G) (hv : v < n) (hv0 : nth s0.idx v = 0) (hin : ∀ a, a < n → ∀ w ∈ nx a, w < n) (L : XN nx n s0 G v (nx v) s) : zeD nx n s0 G v (Uc srt s v) := by
 have hvs := L.vin
 obtain ⟨e, he, he2⟩ := L.st
 have hv0s : v ∉ s0.st := fun hm => h0.old hm hv0
 have hold : ∀ x ∈ s0.st, nth s.idx x ≤ s0.cnt := fun x hx => by rw [L.ix x (h0.old hx)]; exact h0.cb x
 have hiv := L.iv
 have hgl : ∀ g ∈ G, nth s.idx g ≤ s0.cnt := fun g hg => hold g (h0.gs g hg)
 have hgv : ∀ g ∈ G ++ [v], Rr nx g v := fun g hg => by
  rcases List.mem_append.1 hg with hm | hm
  ·exact L.inv.gr g hg v hvs (by have := hgl g hm; omega)
  ·rw [List.mem_singleton.1 hm]; exact .refl v
 have hbl : ∀ x, x < n → nth s.idx x ≠ 0 → x ∉ G → ∀ w ∈ nx x, nth s.idx w ≠ 0 := fun x hx hz hG w hw => by
  by_cases ex : x = v
  ·rw [ex] at hw; exact (L.l4 w hw).1
  ·exact L.inv.bl x hx hz (fun hm => (List.mem_append.1 hm).elim hG fun h => ex (List.mem_singleton.1 h)) w hw
 have hnew : ∀ x, x ∈ s.st → x ∉ s0.st → x = v ∨ x ∈ e := fun x hx hn => by
  rw [he] at hx
  exact List.mem_cons.1 ((List.mem_append.1 hx).resolve_left hn)
 unfold Uc
 split
 ·rename_i hlt
  obtain ⟨y0, y1, y2, y3⟩ := L.l2
  have hy0 : y0 ∈ s0.st := by
   rw [he] at y1
   rcases List.mem_append.1 y1 with h | h
   ·exact h
   ·rcases List.mem_cons.1 h with h | h
    ·rw [h] at y2; omega
    ·have := he2 y0 h; omega
  refine ⟨⟨L.inv.li, L.inv.ll, L.inv.lo, L.inv.cb, L.inv.sn, L.inv.so, L.inv.ss, L.inv.vo, L.inv.oo, L.inv.nd, L.inv.oc, hbl, fun g hg => L.inv.gs g (List.mem_append_left _ hg), fun g hg => L.inv.gr g (List.mem_append_left _ hg), fun y hy => ?_, L.inv.ol, L.inv.cu⟩, L.ix, by omega, by have := L.cm; omega, ⟨v :: e, he, fun x hx => ?_⟩, L.lw, .inr ⟨hlt, hvs, y0, hy0, y2, y3⟩, fun x hx hc w hw hws => ?_⟩
  ·obtain ⟨g, g1, g2, g3⟩ := L.inv.sg y hy
   rcases List.mem_append.1 g1 with hm | hm
   ·exact ⟨g, hm, g2, g3⟩
   ·have eg := List.mem_singleton.1 hm
    subst eg
    obtain ⟨g', p1, p2, p3⟩ := L.inv.sg y0 y1
    have hne : g' ≠ g := fun e => by subst e; omega
    have hG' : g' ∈ G := (List.mem_append.1 p1).resolve_right fun h => hne (List.mem_singleton.1 h)
    exact ⟨g', hG', by omega, (g3.trans y3).trans p3⟩
  ·rcases List.mem_cons.1 hx with h | h
   ·rw [h]; omega
   ·have := he2 x h; omega
  ·have hx0 : x ∉ s0.st := fun h => by have := hold x h; omega
   rcases hnew x hx hx0 with h | h
   ·rw [h] at hw; exact (L.l4 w hw).2 hws
   ·exact L.l3 x hx (he2 x h) w hw hws
 ·rename_i hlt
  have hlv : nth s.low v = s0.cnt + 1 := by have := L.l1; omega
  have hpos : s.st.idxOf v = s0.st.length := by
   rw [he, List.idxOf_append]; simp [hv0s]
  have hdrop : s.st.drop (s.st.idxOf v) = v :: e := by rw [hpos, he]; simp
  have htake : s.st.take (s.st.idxOf v) = s0.st := by rw [hpos, he]; simp
  have hcs : ∀ x, x ∈ v :: e → x ∈ s.st ∧ x ∉ s0.st ∧ s0.cnt + 1 ≤ nth s.idx x := fun x hx => by
   have h1 : s0.cnt + 1 ≤ nth s.idx x := by
    rcases List.mem_cons.1 hx with h | h
    ·rw [h]; omega
    ·have := he2 x h; omega
   exact ⟨by rw [he]; exact List.mem_append_right _ hx, fun h => by have := hold x h; omega, h1⟩
  have hcl : ∀ a ∈ v :: e, ∀ w ∈ nx a, nth s.idx w ≠ 0 ∧ w ∉ s0.st := fun a ha w hw => by
   obtain ⟨a1, a2, a3⟩ := hcs a ha
   rcases List.mem_cons.1 ha with h | h
   ·rw [h] at hw
    obtain ⟨w1, w2⟩ := L.l4 w hw
    exact ⟨w1, fun hs => by have := w2 hs; have := hold w hs; omega⟩
   ·have h2 := he2 a h
    refine ⟨hbl a (L.inv.sn a a1).1 (L.inv.old a1) (fun hG => a2 (h0.gs a hG)) w hw, fun hs => ?_⟩
    have := L.l3 a a1 h2 w hw hs
    have := hold w hs
    omega
  have hfw : ∀ y ∈ v :: e, Rr nx v y ∧ Rr nx y v := fun y hy => by
   obtain ⟨a1, a2, a3⟩ := hcs y hy
   refine ⟨L.inv.gr v (by simp) y a1 (by omega), ?_⟩
   obtain ⟨g, g1, g2, g3⟩ := L.inv.sg y a1
   exact g3.trans (hgv g g1)
  have hbw : ∀ b, Rr nx v b → b ∈ v :: e ∨ ∃ d ∈ s.out, b ∈ d := fun b hb => by
   induction hb with
   | refl => exact .inl (List.mem_cons_self ..)
   | @tail b c hb hc ih =>
    have hlast : ∀ w, w < n → nth s.idx w ≠ 0 → w ∉ s0.st → w ∈ v :: e ∨ ∃ d ∈ s.out, w ∈ d := fun w hwn hz hs => by
     by_cases hm : w ∈ s.st
     ·exact .inl (List.mem_cons.2 (hnew w hm hs))
     ·exact .inr (L.inv.vo w hwn hz hm)
    rcases ih with h | ⟨d, d1, d2⟩
    ·obtain ⟨w1, w2⟩ := hcl b h c hc
     exact hlast c (hin b (L.inv.sn b (hcs b h).1).1 c hc) w1 w2
    ·obtain ⟨w1, w2⟩ := L.inv.oc d d1 b d2 c hc
     exact hlast c (hin b ((L.inv.oo d d1).2 b d2).1 c hc) w1 fun h => w2 (L.sub h)
  have hscc : ∀ b, b ∈ v :: e ↔ b < n ∧ Rr nx v b ∧ Rr nx b v := fun b => by
   refine ⟨fun hb => ⟨(L.inv.sn b (hcs b hb).1).1, hfw b hb⟩, fun ⟨hbn, h1, h2⟩ => ?_⟩
   rcases hbw b h1 with h | ⟨d, d1, d2⟩
   ·exact h
   ·obtain ⟨_, _, _, hd⟩ := (L.inv.oo d d1).2 b d2
    have hvd : v ∈ d := by rw [hd, WS]; exact ⟨hv, h2, h1⟩
    exact absurd hvs ((L.inv.oo d d1).2 v hvd).2.2.1
  have hnd : (v :: e).Nodup := by
   have h1 := L.inv.ss
   rw [he, List.pairwise_append] at h1
   exact h1.2.1.imp fun h e => by rw [e] at h; omega
  have hc : srt (v :: e) = xI nx n v := by
   refine zbD (hsrt _).2 ?_ ((hsrt _).1.trans ?_)
   ·unfold xI
    exact (List.pairwise_lt_range.imp fun h => Nat.le_of_lt h).filter _
   ·refine (List.perm_ext_iff_of_nodup hnd (List.nodup_range.filter _)).2 fun b => ?_
    rw [hscc b]
    exact WS.symm
  have hmc : ∀ a, a ∈ srt (v :: e) ↔ a ∈ v :: e := fun a => (hsrt _).1.mem_iff
  unfold zgH
  rw [hdrop, htake]
  refine ⟨⟨L.inv.li, L.inv.ll, by show (clr s.on (v :: e)).length = n; rw [za1]; exact L.inv.lo, L.inv.cb, fun x hx => L.inv.sn x (L.sub hx), fun x hx => ?_, ?_, fun x hx hz hs => ?_, fun c hcm => ?_, ?_, fun c hcm a ha w hw => ?_, hbl, h0.gs, fun g hg y hy => L.inv.gr g (List.mem_append_left _ hg) y (L.sub hy), fun y hy => ?_, ?_, L.inv.cu⟩, L.ix, by show s0.cnt < nth s.idx v; omega, by show _ ≤ s.cnt; have := L.cm; omega, ⟨[], by simp, fun x hx => by cases hx⟩, L.lw, .inl ⟨by show nth s.low v = nth s.idx v; omega, rfl⟩, fun x hx hc2 => ?_⟩
  ·show nth (clr s.on (v :: e)) x = true ↔ x ∈ s0.st
   rw [zdr _ _ (by rw [L.inv.lo]; exact hx), L.inv.so x hx, he, List.mem_append]
   exact ⟨fun ⟨h1, h2⟩ => h1.resolve_right h2, fun h => ⟨.inl h, fun h2 => (hcs x h2).2.1 h⟩⟩
  ·show s0.st.Pairwise fun a b => nth s.idx a < nth s.idx b
   have h1 := L.inv.ss
   rw [he, List.pairwise_append] at h1
   exact h1.1
  ·by_cases hm : x ∈ v :: e
   ·exact ⟨srt (v :: e), by simp, (hmc x).2 hm⟩
   ·obtain ⟨c, c1, c2⟩ := L.inv.vo x hx hz fun h => by
     rw [he] at h
     exact (List.mem_append.1 h).elim hs hm
    exact ⟨c, List.mem_append_left _ c1, c2⟩
  ·rcases List.mem_append.1 hcm with hm | hm
   ·obtain ⟨c1, c2⟩ := L.inv.oo c hm
    refine ⟨c1, fun a ha => ?_⟩
    obtain ⟨a1, a2, a3, a4⟩ := c2 a ha
    exact ⟨a1, a2, fun h => a3 (L.sub h), a4⟩
   ·rw [List.mem_singleton.1 hm]
    refine ⟨fun h => ?_, fun a ha => ?_⟩
    ·have := (hmc v).2 (List.mem_cons_self ..)
     rw [h] at this; cases this
    ·have ha' := (hmc a).1 ha
     obtain ⟨a1, a2, a3⟩ := hcs a ha'
     refine ⟨(L.inv.sn a a1).1, L.inv.old a1, a2, ?_⟩
     rw [hc, zb7 (hfw a ha').1 (hfw a ha').2]
  ·show (s.out ++ [srt (v :: e)]).Nodup
   rw [List.nodup_append]
   refine ⟨L.inv.nd, by simp, fun a ha b hb e2 => ?_⟩
   rw [List.mem_singleton.1 hb] at e2
   have hva : v ∈ a := by rw [e2]; exact (hmc v).2 (List.mem_cons_self ..)
   exact ((L.inv.oo a ha).2 v hva).2.2.1 hvs
  ·rcases List.mem_append.1 hcm with hm | hm
   ·obtain ⟨w1, w2⟩ := L.inv.oc c hm a ha w hw
    exact ⟨w1, fun h => w2 (L.sub h)⟩
   ·rw [List.mem_singleton.1 hm] at ha
    exact hcl a ((hmc a).1 ha) w hw
  ·obtain ⟨g, g1, g2, g3⟩ := h0.sg y hy
   refine ⟨g, g1, ?_, g3⟩
   show nth s.idx g ≤ nth s.idx y
   rw [L.ix g (h0.old (h0.gs g g1)), L.ix y (h0.old hy)]; exact g2
  ·show (s.out ++ [srt (v :: e)]).length + s0.st.length ≤ s.cnt
   have h1 := L.inv.ol
   rw [he, List.length_append, List.length_cons] at h1
   rw [List.length_append, List.length_singleton]; omega
  ·have hc2' : s0.cnt < nth s.idx x := hc2
   have := hold x hx
   omega
theorem zes {s : TjS} {G : List Nat} {v k : Nat} {rc : TjS → Nat → TjS} (hin : ∀ a, a < n → ∀ w ∈ nx a, w < n) (h : UP nx n s G) (hv : v < n) (h0 : nth s.idx v = 0) (hrc : ∀ (t : TjS) (G : List Nat) (w : Nat), UP nx n t G → w < n → nth t.idx w = 0 → unv t ≤ k → (∀ g ∈ G, Rr nx g w) → zeD nx n t G w (rc t w)) :
  ∀ (Q P : List Nat) (t : TjS), (∀ w ∈ Q, w ∈ nx v) → unv t ≤ k → XN nx n s G v P t → XN nx n s G v (P ++ Q) (Q.foldl (XH rc v) t) ∧ unv (Q.foldl (XH rc v) t) ≤ k
 | [], P, t, _, hk, hL => by rw [List.append_nil]; exact ⟨hL, hk⟩
 | w :: Q, P, t, hQ, ht, hL => by
  have hw := hQ w (List.mem_cons_self ..)
  have hgg : ∀ g ∈ G ++ [v], Rr nx g w := fun g hgm => by
   rcases List.mem_append.1 hgm with hm | hm
   ·refine .tail (hL.inv.gr g hgm v hL.vin ?_) hw
    have := hL.ix g (h.old (h.gs g hm))
    have := h.cb g
    have := hL.iv
    omega
   ·rw [List.mem_singleton.1 hm]; exact .one hw
  have hL' := zgz h hv h0 hL hw (hin v hv w hw) fun hz hgg => hrc t _ w hL.inv (hin v hv w hw) hz ht hgg
  have hut : unv (XH rc v t w) ≤ k := by
   refine Nat.le_trans (zgC (by rw [hL'.inv.li, hL.inv.li]) fun x hx => ?_) ht
   unfold XH
   split
   ·rename_i hz
    exact (hrc t _ w hL.inv (hin v hv w hw) hz ht hgg).ix x hx
   ·split <;> rfl
  have := zes hin h hv h0 hrc Q (P ++ [w]) _ (fun u hu => hQ u (List.mem_cons_of_mem _ hu)) hut hL'
  rw [List.append_assoc] at this
  exact this
theorem WW (hsrt : ∀ l : List Nat, (srt l).Perm l ∧ (srt l).Pairwise (· ≤ ·)) (hin : ∀ a, a < n → ∀ w ∈ nx a, w < n) : ∀ (k : Nat) (s : TjS) (G : List Nat) (v : Nat), UP nx n s G → v < n → nth s.idx v = 0 → unv s ≤ k → (∀ g ∈ G, Rr nx g v) → zeD nx n s G v (tv nx srt k s v)
 | 0, s, G, v, h, hv, h0, hk, _ => by
  exfalso
  have := WY (s := s) (v := v) (c := 1) (by rw [h.li]; exact hv) h0 (by decide)
  omega
 | k + 1, s, G, v, h, hv, h0, hk, hg => by
  have hu := WY (s := s) (v := v) (c := s.cnt + 1) (by rw [h.li]; exact hv) h0 (by omega)
  have hE := zer h hv h0 hg
  have := (zes hin h hv h0 (fun t G w => WW hsrt hin k t G w) (nx v) [] (YR s v) (fun w hw => hw) (by show List.countP _ (s.idx.set v (s.cnt + 1)) ≤ k; omega) hE).1
  rw [List.nil_append] at this
  exact zbE hsrt h hv h0 hin this

def zb9 (nx : Nat → List Nat) (srt : List Nat → List Nat) (n : Nat) (s : TjS) (v : Nat) : TjS := if nth s.idx v = 0 then tv nx srt n s v else s
def zca (n : Nat) : TjS := ⟨List.replicate n 0, List.replicate n 0, List.replicate n false, [], [], 0⟩
def tTo (nx : Nat → List Nat) (srt : List Nat → List Nat) (n j : Nat) : TjS := (List.range j).foldl (zb9 nx srt n) (zca n)
theorem zcb (j : Nat) : tTo nx srt n (j + 1) = zb9 nx srt n (tTo nx srt n j) j := by unfold tTo; rw [List.range_succ, List.foldl_append]; rfl
theorem zdU {α : Type} [Inhabited α] {n : Nat} {a : α} (h : a = default) (x : Nat) : nth (List.replicate n a) x = a := by
 unfold nth
 rw [List.getD_eq_getElem?_getD, List.getElem?_replicate]
 split
 ·rfl
 ·exact h.symm
theorem zeq (hsrt : ∀ l : List Nat, (srt l).Perm l ∧ (srt l).Pairwise (· ≤ ·)) (hin : ∀ a, a < n → ∀ w ∈ nx a, w < n) : ∀ j, j ≤ n → UP nx n (tTo nx srt n j) [] ∧ ∀ v, v < j → nth (tTo nx srt n j).idx v ≠ 0
 | 0, _ => by
  have hz : ∀ v, nth (List.replicate n 0) v = 0 := fun v => zdU rfl v
  refine ⟨⟨by simp [tTo, zca], by simp [tTo, zca], by simp [tTo, zca], fun v => ?_, (fun v hv => by cases hv), fun v hv => ?_, .nil, fun v _ h => absurd (hz v) h, (fun c hc => by cases hc), .nil, (fun c hc => by cases hc), fun v _ h => absurd (hz v) h, (fun g hg => by cases hg), (fun g hg => by cases hg), (fun y hy => by cases hy), Nat.le_refl _, ?_⟩, fun v hv => by omega⟩
  ·show nth (List.replicate n 0) v ≤ 0; rw [hz]; exact Nat.le_refl _
  ·show nth (List.replicate n false) v = true ↔ v ∈ []
   rw [zdU (a := false) rfl]; simp
  ·show 0 + (List.replicate n 0).countP (fun x => decide (x = 0)) = n
   rw [List.countP_eq_length.2 (fun x hx => by simp [List.eq_of_mem_replicate hx]), List.length_replicate, Nat.zero_add]
 | j + 1, hj => by
  obtain ⟨I, hv⟩ := zeq hsrt hin j (by omega)
  rw [zcb]
  unfold zb9
  split
  ·rename_i hz
   have T := WW hsrt hin n _ [] j I (by omega) hz (by have := I.li; exact Nat.le_trans List.countP_le_length (by omega)) (fun g hg => by cases hg)
   refine ⟨T.inv, fun v h => ?_⟩
   by_cases e : v = j
   ·rw [e]; have := T.cn; omega
   ·have := hv v (by omega)
    rw [T.ix v this]; exact this
  ·rename_i hz
   refine ⟨I, fun v h => ?_⟩
   by_cases e : v = j
   ·rw [e]; exact hz
   ·exact hv v (by omega)
theorem zgA (hsrt : ∀ l : List Nat, (srt l).Perm l ∧ (srt l).Pairwise (· ≤ ·)) (hin : ∀ a, a < n → ∀ w ∈ nx a, w < n) : (tTo nx srt n n).out.Nodup ∧ ∀ c, c ∈ (tTo nx srt n n).out ↔ ∃ a, a < n ∧ c = xI nx n a := by
 obtain ⟨I, hv⟩ := zeq (srt := srt) hsrt hin n (Nat.le_refl n)
 have hst : (tTo nx srt n n).st = [] := by
  cases h : (tTo nx srt n n).st with
  | nil => rfl
  | cons y l =>
   obtain ⟨g, hg, _⟩ := I.sg y (by rw [h]; exact List.mem_cons_self ..)
   cases hg
 refine ⟨I.nd, fun c => ⟨fun hc => ?_, fun ⟨a, ha, e⟩ => ?_⟩⟩
 ·obtain ⟨h1, h2⟩ := I.oo c hc
  obtain ⟨a, ha⟩ := List.exists_mem_of_ne_nil c h1
  exact ⟨a, (h2 a ha).1, (h2 a ha).2.2.2⟩
 ·obtain ⟨d, d1, d2⟩ := I.vo a ha (hv a ha) (by rw [hst]; exact List.not_mem_nil)
  have := ((I.oo d d1).2 a d2).2.2.2
  rw [e, ← this]; exact d1
end
end Go.Proofs.Ythjplkjpehdpfaa
