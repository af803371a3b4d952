/-
  Steps of one's own in drawn regions: rows of handles with more cells, calls that are lent objects; handles in cells that are read as lists from now on.
-/
import Derived.Test.YtbeebjdnapkhhaaZFmRowH
import Derived.Test.YtbeebjdnapkhhaaZJ
namespace Go.Proofs.Ytbeebjdnapkhhaa
set_option linter.unusedVariables false
open Go.RowKit

theorem xM.loc {s s' : FSt} {f : FV} (h : xM s f) (ho : ∀ id ver, f.hand = some (id, ver) → s'.ob id = s.ob id) : xM s' f := by
 rcases h with h1 | ⟨id, ver, o, n, rfl, hl⟩ | ⟨id, ver, j, o, rfl, hl⟩ | ⟨k, fs, rfl⟩
 ·exact .inl h1
 ·exact .inr (.inl ⟨id, ver, o, n, rfl, by unfold FSt.live at *; rw [ho id ver rfl]; exact hl⟩)
 ·exact .inr (.inr (.inl ⟨id, ver, j, o, rfl, by unfold FSt.live at *; rw [ho id ver rfl]; exact hl⟩))
 ·exact .inr (.inr (.inr ⟨k, fs, rfl⟩))
section
variable {c : Ctx} {w0 w : World} {J : JJ} {s : FSt} {a : Act} {β : Nat → Option Nat} {dst : Option Nat} {ty : TypeId} {pos : String} {after : Array Edge} {g : Option (Nat × Bool)}
theorem zdH (h : FR c.N w0 J s a w β) {T a1 a2 : Nat} (hT : (c.ty T).k = .strct [(0, a1), (1, a2)]) (h1 : (c.ty a1).k ≠ .other) (h2 : (c.ty a2).k ≠ .other) (hz1 : (c.ty a1).size = 1) (hz2 : (c.ty a2).size = 1) {z1 z2 f1 f2 : FV} (hz : (c.ty T).zero = [z1, z2]) (x y : Operand) (ex : s.ev x = f1) (ey : s.ev y = f2)
  (hf1 : xM s f1) (hf2 : xM s f2) (hw1 : f1.notWrap = true) (hw2 : f2.notWrap = true) :
  yJ c w0 J s a ⟨dst, .build T #[(0, x), (1, y)], ty, pos, after, g⟩ w (.wrap .agg [f1, f2]) [] := by
 obtain ⟨d, i, z, ht⟩ := c.get hT (by simp)
 have hd := ht.k
 rw [hT] at hd
 obtain ⟨gs, rfl, hgs, _⟩ := ZV hd
 have hfs : ∀ p ∈ [(0, a1), (1, a2)], (c.ty p.2).k ≠ .other := fun p hp => by
  simp at hp; rcases hp with rfl | rfl
  ·exact h1
  ·exact h2
 have hp : gs.toList.mapM (fun f => (c.P.info? f.type).map fun i => (f.offset, i.size)) = some (gs.toList.map fun f => (f.offset, (c.ty f.type).size)) := by
  have key : ∀ (l : List Field), (∀ f ∈ l, (c.ty f.type).k ≠ .other) → l.mapM (fun f => (c.P.info? f.type).map fun i => (f.offset, i.size)) = some (l.map fun f => (f.offset, (c.ty f.type).size)) := by
   intro l
   induction l with
   | nil => intro _; rfl
   | cons f l ih =>
    intro hl
    obtain ⟨d', i', z', ht'⟩ := c.get rfl (hl f (by simp))
    simp only [List.mapM_cons, ht'.info, Option.map_some, Option.bind_eq_bind, Option.bind_some, ih (fun f hf => hl f (by simp [hf])), Option.pure_def, ht'.size, List.map_cons]
  refine key _ (fun f hf => hfs (f.offset, f.type) ?_)
  rw [hgs]
  exact List.mem_map.2 ⟨f, hf, rfl⟩
 have hpl : gs.toList.map (fun f => (f.offset, (c.ty f.type).size)) = [(0, 1), (1, 1)] := by
  have : gs.toList.map (fun f => (f.offset, (c.ty f.type).size)) = (gs.toList.map fun f => (f.offset, f.type)).map fun p => (p.1, (c.ty p.2).size) := by rw [List.map_map]; rfl
  rw [this, ← hgs]
  simp [hz1, hz2]
 have hvx := h.ev x
 rw [ex] at hvx
 have hvy := h.ev y
 rw [ey] at hvy
 obtain ⟨c1, _⟩ := xM.val h ex hf1
 obtain ⟨c2, _⟩ := xM.val h ey hf2
 obtain ⟨u1, u2, hzc⟩ : ∃ u1 u2, z.cells.toList = [u1, u2] := by
  have hr := (RdL.zeros (w := w) (I := Imm J w β s) ht.zr).1
  rw [hz] at hr
  match z.cells.toList, hr with
  | [u1, u2], _ => exact ⟨u1, u2, rfl⟩
 have hzc' : z.cells = #[u1, u2] := by apply Array.ext'; rw [hzc]
 have hb : c.P.built T [(0, a.eval x), (1, a.eval y)] = some #[a.eval x, a.eval y] := by
  unfold Program.built
  simp only [ht.info, ht.u, ht.zo, hp, hpl]
  simp [Instr.fill, c1, c2, hzc']
 refine .pure h (v := .agg #[a.eval x, a.eval y]) ?_ ⟨[a.eval x, a.eval y], rfl, rfl, fun j u q hu hq => ?_⟩ fun id ver hm => ?_
 ·have := run_build (P := c.P) w T #[(0, a.eval x), (1, a.eval y)] #[a.eval x, a.eval y] (by simpa using hb)
  simp only [execOp, Sem.run_bind]
  simp [this]
 ·match j with
  | 0 => injection hu with hu; injection hq with hq; subst hu; subst hq; exact hvx.to1 (fun k fs e => by subst e; cases hw1)
  | 1 => injection hu with hu; injection hq with hq; subst hu; subst hq; exact hvy.to1 (fun k fs e => by subst e; cases hw2)
  | j + 2 => simp at hu
 ·obtain ⟨q, hq, e⟩ := WE hm
  rcases List.mem_cons.1 hq with rfl | hq
  ·exact h.evers x (by rw [ex]; exact FV.hand_hands (fun k fs e' => by rw [e'] at hw1; cases hw1) e)
  ·rw [List.mem_singleton.1 hq] at e
   exact h.evers y (by rw [ey]; exact FV.hand_hands (fun k fs e' => by rw [e'] at hw2; cases hw2) e)
theorem zgq (h : FR c.N w0 J s a w β) (d : Nat) {T : Nat} (x : Operand) {fs : List FV} (ex : s.ev x = .wrap .agg fs) (hpos : 0 < fs.length) (hmax : fs.length ≤ 1000000) :
  yJ c w0 J s a ⟨some d, .box T x, ty, pos, after, g⟩ w (.ptr d ((s.ob d).ver + 1) 0 0) [(d, ⟨(s.ob d).ver + 1, .hrow, T, fs.length, [fs]⟩)] := by
 obtain ⟨us, hv, hur⟩ := h.wraps ex
 have hgr := World.grownBy_alloc w (.cells us.toArray T) none
 have hrun : (execOp a.eval ⟨some d, .box T x, ty, pos, after, g⟩).run c.P w = .ok (.value (.pointer (some ⟨w.heap.size, 0, none⟩))) (w.alloc (.cells us.toArray T)) := by
  have hc : (a.eval x).cells = us.toArray := by rw [hv]; rfl
  simp [execOp, Instr.box, newVar, newRow, hc]
 have hrow : (w.alloc (.cells us.toArray T)).ownsRow w0.heap.size T fs.length (.slice (some ⟨w.heap.size, 0, none⟩) 1 1) 1 us :=
  ⟨by have := hur.len; omega, .inr ⟨w.heap.size, 1, us.toArray, rfl, h.bel.size, heap_alloc_new w _, Nat.le_refl _, by unfold maxLen; omega, by simp [hur.len], by rw [List.take_of_length_le (by simp [hur.len])]⟩⟩
 have hF := h.makeG none d (nb := ⟨(s.ob d).ver + 1, .hrow, T, fs.length, [fs]⟩) (v := .slice (some ⟨w.heap.size, 0, none⟩) 1 1) (s' := s.set d ⟨(s.ob d).ver + 1, .hrow, T, fs.length, [fs]⟩) (fun k e => by cases e) hgr (.inr (.inr ⟨_, rfl, Nat.le_refl _⟩)) rfl
  (fun k => by rw [FSt.ob_set]; simp) (fun k => rfl) (fun hI T' => by
   refine .ofH ⟨fun q hq => by rw [List.mem_singleton.1 hq], fun q hq id ver hm => ?_, _, us, hrow, rfl, by simp [hur.len], fun j u q hu hq => ?_⟩ rfl
   ·have hq : q ∈ fs := by simpa using hq
    obtain ⟨j, hj, rfl⟩ := List.getElem_of_mem hq
    have hju : j < us.length := by have := hur.len; omega
    have := (hur.get j us[j] fs[j] (by simp [hju]) (by simp [hj])).2 id ver hm
    rw [FSt.ob_set]
    split
    ·rename_i e; subst e; exact Nat.le_succ_of_le this
    ·exact this
   ·have hq : fs[j]? = some q := by simpa using hq
    obtain ⟨k1, k2⟩ := hur.get j u q hu hq
    exact T' u q k1 k2)
 refine ⟨_, _, _, hrun, hF, fun _ _ => ⟨?_, w.heap.size, yc _ _ _, by simp⟩, fun id ver e => ?_⟩
 ·show (FSt.ob (FSt.set s d _) d).life.slic = true
  rw [FSt.ob_set, if_pos rfl]; rfl
 ·simp only [FV.hands, List.mem_singleton, Prod.mk.injEq] at e
  obtain ⟨rfl, rfl⟩ := e
  show _ ≤ (FSt.ob (FSt.set s _ _) _).ver
  rw [FSt.ob_set, if_pos rfl]
  exact Nat.le_refl _
theorem zdD (h : FR c.N w0 J s a w β) (d : Nat) {T : Nat} (hk : (c.ty T).k.known = true) (hz : (c.ty T).size = 1) : yJ c w0 J s a ⟨some d, .alloc T, ty, pos, after, g⟩ w (.ptr d ((s.ob d).ver + 1) 0 0) [(d, ⟨(s.ob d).ver + 1, .hrow, T, 1, [[.undef]]⟩)] := by
 obtain ⟨z, h1, _, h3⟩ := xa (c := c) (T := T) (fun e => by rw [e] at hk; cases hk) w
 obtain ⟨u, hu⟩ : ∃ u, z.cells = #[u] := by
  have hl : z.cells.toList.length = 1 := by rw [← hz, ← h3]; simp
  obtain ⟨u, hu⟩ := List.length_eq_one_iff.1 hl
  exact ⟨u, by apply Array.ext'; rw [hu]⟩
 have hN := h.newH d T (f := .undef) (v := u) (VR.of_rd (.undef _) rfl) (fun _ _ e => by cases e)
 have hrun : (execOp a.eval ⟨some d, .alloc T, ty, pos, after, g⟩).run c.P w = .ok (.value (.pointer (some ⟨w.heap.size, 0, none⟩))) (w.alloc (.cells #[u] T)) := by
  simp [execOp, Instr.alloc, h1, newVar, newRow, hu]
 refine ⟨_, _, _, hrun, hN, fun _ _ => ⟨?_, w.heap.size, yc _ _ _, by simp⟩, fun id ver e => ?_⟩
 ·show (FSt.ob (FSt.set _ d _) d).life.slic = true
  rw [FSt.ob_set, if_pos rfl]; rfl
 ·simp only [FV.hands, List.mem_singleton, Prod.mk.injEq] at e
  obtain ⟨rfl, rfl⟩ := e
  show _ ≤ (FSt.ob (FSt.set _ _ _) _).ver
  rw [FSt.ob_set, if_pos rfl]
  exact Nat.le_refl _
end
section
variable {c : Ctx} {ops : Array Oper} {rest : List Oper} {t : List (Nat × FV)} {ob : List (Nat × zp)} {d : Nat} {ty : TypeId} {pos : String} {af : Array Edge} {gd : Option (Nat × Bool)} {tr : List Rec} {QD : FSt → List Rec → Prop}
theorem zbI {op : Op} {f : FV} {wr : List (Nat × zp)} (hst : UT op = false) (hno : ¬ Vc op) (hd : Nat.blt d c.N = true) (hw : zK ops ⟨t, ob⟩ (⟨some d, op, ty, pos, af, gd⟩ : Oper) true)
  (hg : ∀ s' : FSt, (∀ x ∈ op.operands.toList, s'.ev x = (⟨t, ob⟩ : FSt).ev x) → (∀ id ∈ xD ⟨t, ob⟩ d op, s'.ob id = (⟨t, ob⟩ : FSt).ob id) → ∀ (w0 : World) (J : JJ) (a : Act) (w : World) (β : Nat → Option Nat) (ty : TypeId) (pos : String) (after : Array Edge) (g : Option (Nat × Bool)),
   FR c.N w0 J s' a w β → yJ c w0 J s' a ⟨some d, op, ty, pos, after, g⟩ w f wr)
  (k : zE c ops rest (((⟨t, ob⟩ : FSt).wr wr).put d f) (tr ++ [⟨(⟨some d, op, ty, pos, af, gd⟩ : Oper), f, wr, xD ⟨t, ob⟩ d op⟩]) QD) : zE c ops ((⟨some d, op, ty, pos, af, gd⟩ : Oper) :: rest) ⟨t, ob⟩ tr QD :=
 zE.cons (f := f) (wr := wr) (d := d) ⟨.inl rfl, (fun _ e => by injection e with e; subst e; exact Nat.le_of_ble_eq_true hd), .ext hst hno fun s' h1 h2 w0 J a w β ty pos after g hdN hF K Q hK =>
  yJ.wp (hg s' h1 h2 w0 J a w β ty pos after g hF) (fun d' e => by injection e with e; subst e; exact hdN) hK⟩ hw rfl rfl k
theorem zjH {T : Nat} {x : Operand} : ¬ Vc (.load T x) := by rintro (⟨_, _, _, e⟩ | ⟨_, _, _, _, e⟩) <;> cases e
theorem zin {T : Nat} {ps : Array (Nat × Operand)} : ¬ Vc (.build T ps) := by rintro (⟨_, _, _, e⟩ | ⟨_, _, _, _, e⟩) <;> cases e
theorem zkv {T : Nat} {x : Operand} : ¬ Vc (.box T x) := by rintro (⟨_, _, _, e⟩ | ⟨_, _, _, _, e⟩) <;> cases e
theorem zim {T : Nat} : ¬ Vc (.alloc T) := by rintro (⟨_, _, _, e⟩ | ⟨_, _, _, _, e⟩) <;> cases e
theorem zjG {cl : Call} : ¬ Vc (.call cl) := by rintro (⟨_, _, _, e⟩ | ⟨_, _, _, _, e⟩) <;> cases e
theorem UI {T id ver j o E sz : Nat} {x : Operand} {es : List (List FV)} {row : List FV} {f : FV} (hx : (⟨t, ob⟩ : FSt).ev x = .ptr id ver j o) (hk : (c.ty T).k.agg? = some false) (hb : (⟨t, ob⟩ : FSt).ob id = ⟨ver, .hrow, E, sz, es⟩) (hj : es[j]? = some row) (ho : row[o]? = some f) (hd : Nat.blt d c.N = true) (hw : zK ops ⟨t, ob⟩ (⟨some d, .load T x, ty, pos, af, gd⟩ : Oper) true)
  (k : zE c ops rest ⟨(d, f) :: t, ob⟩ (tr ++ [⟨(⟨some d, .load T x, ty, pos, af, gd⟩ : Oper), f, [], xD ⟨t, ob⟩ d (.load T x)⟩]) QD) : zE c ops ((⟨some d, .load T x, ty, pos, af, gd⟩ : Oper) :: rest) ⟨t, ob⟩ tr QD :=
 zbI (wr := []) rfl zjH hd hw (fun s' h1 h2 w0 J a w β ty pos after g hF => by
  have e1 := (h1 x (by simp [Op.operands])).trans hx
  have e2 := (h2 id (XY (x := x) rfl (by simp [Op.operands]) (by rw [hx]; rfl))).trans hb
  exact Ug hF hk x e1 (by rw [e2]) (by rw [e2]) (by rw [e2]; exact hj) ho) k
theorem zg4 {T : Nat} {v0 E0 sz0 : Nat} {lf0 : zU} {es0 : List (List FV)} (hk : (c.ty T).k.known = true) (hz : (c.ty T).size = 1) (hv : (⟨t, ob⟩ : FSt).ob d = ⟨v0, lf0, E0, sz0, es0⟩) (hd : Nat.blt d c.N = true) (hw : zK ops ⟨t, ob⟩ (⟨some d, .alloc T, ty, pos, af, gd⟩ : Oper) true)
  (k : zE c ops rest ⟨(d, .ptr d (v0 + 1) 0 0) :: t, (d, ⟨v0 + 1, .hrow, T, 1, [[.undef]]⟩) :: ob⟩ (tr ++ [⟨(⟨some d, .alloc T, ty, pos, af, gd⟩ : Oper), .ptr d (v0 + 1) 0 0, [(d, ⟨v0 + 1, .hrow, T, 1, [[.undef]]⟩)], xD ⟨t, ob⟩ d (.alloc T)⟩]) QD) : zE c ops ((⟨some d, .alloc T, ty, pos, af, gd⟩ : Oper) :: rest) ⟨t, ob⟩ tr QD :=
 zbI (wr := [(d, ⟨v0 + 1, .hrow, T, 1, [[.undef]]⟩)]) rfl zim hd hw (fun s' h1 h2 w0 J a w β ty pos after g hF => by
  have e2 := (h2 d (zbm _ _ _)).trans hv
  have := zdD (ty := ty) (pos := pos) (after := after) (g := g) hF d hk hz
  rw [e2] at this
  exact this) k
theorem zg7 {T a1 a2 by_ : Nat} {x y : Operand} {z1 z2 f1 f2 : FV} (hT : c.ty T = ⟨.strct [(0, a1), (1, a2)], 2, by_, [z1, z2]⟩) (k1 : (c.ty a1).k.known = true) (k2 : (c.ty a2).k.known = true) (hz1 : (c.ty a1).size = 1) (hz2 : (c.ty a2).size = 1) (hx : (⟨t, ob⟩ : FSt).ev x = f1) (hy : (⟨t, ob⟩ : FSt).ev y = f2) (hf1 : xM ⟨t, ob⟩ f1) (hf2 : xM ⟨t, ob⟩ f2) (hw1 : f1.notWrap = true) (hw2 : f2.notWrap = true) (hd : Nat.blt d c.N = true) (hw : zK ops ⟨t, ob⟩ (⟨some d, .build T #[(0, x), (1, y)], ty, pos, af, gd⟩ : Oper) true)
  (k : zE c ops rest ⟨(d, .wrap .agg [f1, f2]) :: t, ob⟩ (tr ++ [⟨(⟨some d, .build T #[(0, x), (1, y)], ty, pos, af, gd⟩ : Oper), .wrap .agg [f1, f2], [], xD ⟨t, ob⟩ d (.build T #[(0, x), (1, y)])⟩]) QD) : zE c ops ((⟨some d, .build T #[(0, x), (1, y)], ty, pos, af, gd⟩ : Oper) :: rest) ⟨t, ob⟩ tr QD :=
 zbI (wr := []) rfl zin hd hw (fun s' h1 h2 w0 J a w β ty pos after g hF => by
  have mx : x ∈ (Op.build T #[(0, x), (1, y)]).operands.toList := by simp [Op.operands]
  have my : y ∈ (Op.build T #[(0, x), (1, y)]).operands.toList := by simp [Op.operands]
  exact zdH hF (by rw [hT]) (TK.known_ne k1) (TK.known_ne k2) hz1 hz2 (by rw [hT]) x y ((h1 x mx).trans hx) ((h1 y my).trans hy)
   (hf1.loc fun id ver e => h2 id (XY rfl mx (by rw [hx]; exact e))) (hf2.loc fun id ver e => h2 id (XY rfl my (by rw [hy]; exact e))) hw1 hw2) k
theorem zjK {T : Nat} {x : Operand} {fs : List FV} {n v0 E0 sz0 : Nat} {lf0 : zU} {es0 : List (List FV)} (hx : (⟨t, ob⟩ : FSt).ev x = .wrap .agg fs) (hn : fs.length = n) (hp : Nat.blt 0 n = true) (hm : Nat.ble n 1000000 = true) (hv : (⟨t, ob⟩ : FSt).ob d = ⟨v0, lf0, E0, sz0, es0⟩) (hd : Nat.blt d c.N = true) (hw : zK ops ⟨t, ob⟩ (⟨some d, .box T x, ty, pos, af, gd⟩ : Oper) true)
  (k : zE c ops rest ⟨(d, .ptr d (v0 + 1) 0 0) :: t, (d, ⟨v0 + 1, .hrow, T, n, [fs]⟩) :: ob⟩ (tr ++ [⟨(⟨some d, .box T x, ty, pos, af, gd⟩ : Oper), .ptr d (v0 + 1) 0 0, [(d, ⟨v0 + 1, .hrow, T, n, [fs]⟩)], xD ⟨t, ob⟩ d (.box T x)⟩]) QD) : zE c ops ((⟨some d, .box T x, ty, pos, af, gd⟩ : Oper) :: rest) ⟨t, ob⟩ tr QD :=
 zbI (wr := [(d, ⟨v0 + 1, .hrow, T, n, [fs]⟩)]) rfl zkv hd hw (fun s' h1 h2 w0 J a w β ty pos after g hF => by
  subst hn
  have e2 := (h2 d (zbm _ _ _)).trans hv
  have := zgq (ty := ty) (pos := pos) (after := after) (g := g) (T := T) hF d x ((h1 x (by simp [Op.operands])).trans hx) (Nat.le_of_ble_eq_true hp) (Nat.le_of_ble_eq_true hm)
  rw [e2] at this
  exact this) k
theorem zjg (l : List (Nat × zp)) : ∀ (t : List (Nat × FV)) (ob : List (Nat × zp)), (⟨t, ob⟩ : FSt).wr l.reverse = ⟨t, l ++ ob⟩ := by
 induction l with
 | nil => intro t ob; rfl
 | cons p l ih =>
  intro t ob
  rw [List.reverse_cons]
  unfold FSt.wr
  rw [List.foldl_append]
  have := ih t ob
  unfold FSt.wr at this
  rw [this]
  rfl
theorem xx.loc {o o' : List (Nat × zp)} {g : Nat → Nat} {l : List (Nat × zp)} (h : xx o g l) (ho : ∀ k ∈ l.map Prod.fst, look {} o' (g k) = look {} o (g k)) : xx o' g l := by
 induction h with
 | nil => exact .nil
 | cons h hm hg hs ih => exact .cons ((ho _ (by simp)).trans h) hm hg (ih fun k hk => ho k (by simp only [List.map_cons, List.mem_cons]; exact .inr hk))
theorem ziz {f : Nat} {xs : List Operand} {ts : Array TypeId} {args : List FV} {obl : List (Nat × zp)} {Q : FV → (Nat → zp) → Prop} (hs : VB c.P f args obl [] Q) (π : List (Nat × Nat)) {r : FV} {l : List (Nat × zp)}
  (hQ : ∀ res ob', Q res (look {} ob') → res.ren (gOf π) = r ∧ zaf (gOf π) (obl.map Prod.fst) ob' = l) (hx : xs.map (⟨t, ob⟩ : FSt).ev = args.map (FV.ren (gOf π)))
  (hob : xx ob (gOf π) obl) (hnd : ndB ((obl.map Prod.fst).map (gOf π)) = true) (hcl : obl.all (fun p => (look {} obl p.1).cl (obl.map Prod.fst)) = true) (hca : args.all (FV.cl (obl.map Prod.fst)) = true) (hft : ((obl.map Prod.fst).all fun k => (xs.filterMap fun x => ((⟨t, ob⟩ : FSt).ev x).hand.map (·.1)).contains (gOf π k)) = true)
  (hd : Nat.blt d c.N = true) (hw : zK ops ⟨t, ob⟩ (⟨some d, .call { callee := .value (.func f), args := xs.toArray, argTypes := ts }, ty, pos, af, gd⟩ : Oper) true)
  (k : zE c ops rest ⟨(d, r) :: t, l ++ ob⟩ (tr ++ [⟨(⟨some d, .call { callee := .value (.func f), args := xs.toArray, argTypes := ts }, ty, pos, af, gd⟩ : Oper), r, l.reverse, xD ⟨t, ob⟩ d (.call { callee := .value (.func f), args := xs.toArray, argTypes := ts })⟩]) QD) :
  zE c ops ((⟨some d, .call { callee := .value (.func f), args := xs.toArray, argTypes := ts }, ty, pos, af, gd⟩ : Oper) :: rest) ⟨t, ob⟩ tr QD := by
 refine zE.cons (f := r) (wr := l.reverse) (d := d) ⟨.inl rfl, (fun _ e => by injection e with e; subst e; exact Nat.le_of_ble_eq_true hd), .ext rfl zjG fun s' h1 h2 w0 J a w β ty pos after g hdN hF K QQ hK => ?_⟩ hw (by unfold FSt.app; rw [zjg]; rfl) rfl k
 obtain ⟨t', ob'⟩ := s'
 have hopx : ∀ x ∈ xs, x ∈ (Op.call { callee := .value (.func f), args := xs.toArray, argTypes := ts }).operands.toList := fun x hx => by simp [Op.operands, Call.operands]; exact .inr hx
 have hx' : xs.map (⟨t', ob'⟩ : FSt).ev = args.map (FV.ren (gOf π)) := by
  rw [← hx]
  exact List.map_congr_left fun x hx => h1 x (hopx x hx)
 have hob' : xx ob' (gOf π) obl := hob.loc fun k hk => by
  have hc := List.all_eq_true.1 hft k hk
  obtain ⟨x, hx, e⟩ := List.mem_filterMap.1 (List.contains_iff_mem.1 hc)
  cases hh : ((⟨t, ob⟩ : FSt).ev x).hand with
  | none => rw [hh] at e; cases e
  | some p =>
   rw [hh] at e
   have e : p.1 = gOf π k := by simpa using e
   exact h2 (gOf π k) (XY (x := x) (ver := p.2) rfl (hopx x hx) (by rw [hh, ← e]))
 obtain ⟨g1, g2, g3⟩ := zf6 hF hx'
 have hc := zed hF hs (gOf π) hob' (Ux (by rw [List.append_nil]; exact hnd)) hcl hca (fun k hk => by cases hk) g1 g2 g3
 have hmap : (xs.map a.eval).toArray = xs.toArray.map a.eval := by apply Array.ext'; simp
 rw [hmap] at hc
 unfold Oper.wp
 have hrun : (execOp a.eval ⟨some d, .call { callee := .value (.func f), args := xs.toArray, argTypes := ts }, ty, pos, after, g⟩).run c.P w = .ok (.enter f (xs.toArray.map a.eval)) w := by
  have := xB (P := c.P) hs.go (xs.toArray.map a.eval) w
  simp [execOp, resolve, Act.eval, Deferred.ofValue, invoke] at this ⊢
  exact this
 rw [hrun, Oper.upon_enter]
 refine hc.mono ?_
 rintro e w' ⟨v, res, ob2, β', rfl, hq, k1, k2, k3⟩
 obtain ⟨e1, e2⟩ := hQ res ob2 hq
 rw [List.append_nil] at k1 k2 k3
 rw [e1, e2] at k2 k3
 rw [e2] at k1
 refine hK _ w' β' ?_
 rw [zjg]
 exact k1.put hdN k2 k3
end
theorem FLe.cellL {t : List (Nat × FV)} {ob : List (Nat × zp)} (id : Nat) {w E2 sz2 j o k v n E sz : Nat} {es2 es : List (List FV)} {row : List FV} (h : look {} ob id = ⟨w, .hrow, E2, sz2, es2⟩) (hj : es2[j]? = some row) (ho : row[o]? = some (.own k v 0 n)) (hk : look {} ob k = ⟨v, .shut, E, sz, es⟩) (hn : n = es.length) :
  FLe ⟨t, ob⟩ ⟨t, (id, ⟨w, .hrow, E2, sz2, es2.set j (row.set o (.list sz es))⟩) :: ob⟩ := by
 intro N w0 J a wd β hF
 refine ⟨β, ?_⟩
 have hoi : (⟨t, ob⟩ : FSt).ob id = ⟨w, .hrow, E2, sz2, es2⟩ := h
 have hok : (⟨t, ob⟩ : FSt).ob k = ⟨v, .shut, E, sz, es⟩ := hk
 have hlive : ((⟨t, ob⟩ : FSt).ob id).life ≠ .dead := by rw [hoi]; exact (by decide : zU.hrow ≠ .dead)
 have hlivek : ((⟨t, ob⟩ : FSt).ob k).life ≠ .dead := by rw [hok]; exact (by decide : zU.shut ≠ .dead)
 obtain ⟨s', hs'⟩ : ∃ s' : FSt, s' = ⟨t, (id, ⟨w, .hrow, E2, sz2, es2.set j (row.set o (.list sz es))⟩) :: ob⟩ := ⟨_, rfl⟩
 rw [← hs']
 have hob : ∀ q, s'.ob q = if id = q then ⟨w, .hrow, E2, sz2, es2.set j (row.set o (.list sz es))⟩ else (⟨t, ob⟩ : FSt).ob q := fun q => by rw [hs']; exact zw _ _ _ _ _
 have hsub : ∀ q, (s'.ob q).life ≠ .dead → ((⟨t, ob⟩ : FSt).ob q).life ≠ .dead := fun q hl => by
  rw [hob] at hl
  split at hl
  ·rename_i e; subst e; exact hlive
  ·exact hl
 have hmine : ∀ q, (s'.ob q).life.mine = true → ((⟨t, ob⟩ : FSt).ob q).life.mine = true := fun q hl => by
  rw [hob] at hl
  split at hl
  ·rename_i e; subst e; rw [hoi]; rfl
  ·exact hl
 have hI : ∀ b, Imm J wd β ⟨t, ob⟩ b → Imm J wd β s' b := fun b hb => ⟨hb.1, hb.2.1, fun q hl => hb.2.2 q (hmine q hl)⟩
 have hver : ∀ q, (s'.ob q).ver = ((⟨t, ob⟩ : FSt).ob q).ver := fun q => by
  rw [hob]
  split
  ·rename_i e; subst e; rw [hoi]
  ·rfl
 refine hF.step (C := fun q => q = id) hF.size hF.defers hF.bel (fun b hb => ⟨hI b hb, rfl⟩) (fun q => .inl ⟨rfl, by rw [hs']; rfl⟩) (fun q hC => ?_) (fun q _ => Nat.le_of_eq (hver q).symm) (fun q hC hl _ => ?_) (fun q hC hl T => ?_) (fun q q' b hl hl' e e' => hF.inj q q' b (hsub q hl) (hsub q' hl') e e') (fun b _ hn => ⟨rfl, fun q hl => hn q (hsub q hl)⟩)
 ·exact ⟨by rw [hob, if_neg (fun e => hC e.symm)], rfl, fun _ _ _ => rfl⟩
 ·subst hC
  refine ⟨hlive, rfl, by rw [hob, if_pos rfl, hoi], by rw [hob, if_pos rfl, hoi], fun v1 o1 m hv => ?_⟩
  rw [hoi] at hv
  obtain ⟨A, c, k1, k2, k3, k4, k5⟩ := hv.ex
  rw [hob, if_pos rfl]
  exact ⟨rfl, A, c, k1, k2, by simpa using k3, k4, k5⟩
 ·subst hC
  rw [hob, if_pos rfl]
  have hH := (hF.obj q hlive).rowH (by rw [hoi]; rfl) (by rw [hoi]; rfl)
  rw [hoi] at hH
  obtain ⟨v1, us, r1, r2, r3, r4⟩ := hH.row
  have hw := hH.wide
  have hvs := hH.vers
  dsimp only at r1 r3 r4 hw hvs
  have hol : o < row.length := (List.getElem?_eq_some_iff.1 ho).1
  have hfl := VW es2 hw j o row (.list sz es) hj hol
  have hfg := VV es2 hw j o row _ hj ho
  refine .ofH ⟨fun e he => ?_, fun f hf id' ver' e => ?_, v1, us, by dsimp only; rw [List.length_set]; exact r1, r2, by dsimp only; rw [hfl, List.length_set]; exact r3, fun i u f hu hff => ?_⟩ rfl
  ·rcases List.mem_or_eq_of_mem_set he with h' | h'
   ·exact hw e h'
   ·subst h'; rw [List.length_set]; exact hw _ (List.mem_of_getElem? hj)
  ·dsimp only at hf
   rw [hfl] at hf
   rw [hver]
   rcases List.mem_or_eq_of_mem_set hf with h' | h'
   ·exact hvs f h' id' ver' e
   ·subst h'; cases e
  ·dsimp only at hff
   rw [hfl, List.getElem?_set] at hff
   by_cases hij : j * sz2 + o = i
   ·subst hij
    rw [if_pos rfl] at hff
    split at hff
    ·injection hff with hff
     subst hff
     have hv := r4 _ u _ hu hfg
     have hov := hv hlivek (by rw [hok])
     have hO := hF.obj k hlivek
     have hrr := hO.rowR (by rw [hok]; rfl)
     have := UJ (I' := Imm J wd β s') hov hrr (fun b hb => ?_) hI
     ·rw [hok, hn] at this
      dsimp only at this
      rwa [List.drop_zero, List.take_length] at this
     ·have hlt := hO.lt hb
      refine ⟨hlt.2, hF.fresh b hlt.1 (.inr ⟨_, hlivek, hb⟩), fun q' hl' e => ?_⟩
      have := hF.inj k q' b hlivek (hsub q' (zU.mine_ne hl')) hb e
      subst this
      have := hmine k hl'
      rw [hok] at this
      cases this
    ·cases hff
   ·rw [if_neg hij] at hff
    exact T u f (r4 i u f hu hff) (hvs f (List.mem_of_getElem? hff))
end Go.Proofs.Ytbeebjdnapkhhaa
