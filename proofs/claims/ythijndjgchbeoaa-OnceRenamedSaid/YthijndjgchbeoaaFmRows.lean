/-
  Rows whose cells hold handles; an append on the end of a row of which a part is looked at.
-/
import Derived.Test.YthijndjgchbeoaaFmMap
import Derived.ArgAppend
namespace Go.Proofs.Ythijndjgchbeoaa
set_option linter.unusedVariables false
open Go.RowKit

theorem splice_set {α : Type} {X : List α} {p : Nat} (x : α) (h : p < X.length) : splice X p [x] = X.set p x := by
  unfold splice
  rw [List.set_eq_take_append_cons_drop, if_pos h]
  simp
theorem grown_any {w w' : World} (h : w.grownBy w' none) (r : Option Nat) : w.grownBy w' r := { h with block := fun k hk _ => h.block k hk (by simp) }

theorem run_append_room_off (P : Program) (w : World) (t ty e : TypeId) (i : TypeInfo) (ht : P.underlying t = some (.slice e)) (hi : P.info? e = some i) (g off sLen sCap : Nat) (cur : Array Value) (hg : w.heap[g]? = some (.cells cur e (0, 0)))
    (a : Addr) (m c : Nat) (news : List Value) (hl : news.length = m * i.size) (hnews : ∀ (j : Nat) u, news[j]? = some u → w.cell? (a.add j) = some u) (h1 : ∀ u ∈ news, u.oneCell' = true) (hroom : sLen + m ≤ sCap) (hfit : off + sLen * i.size + news.length ≤ cur.size) :
    (Builtin.append_ #[t, t] ty #[.slice (some ⟨g, off, none⟩) sLen sCap, .slice (some a) m c]).run P w = .ok (.slice (some ⟨g, off, none⟩) (sLen + m) sCap) (w.setRow g (splice cur.toList (off + sLen * i.size) news).toArray) := by
  have hf := run_firstCells_some (P := P) w i.size m a m c news hl hnews
  have hst := run_storeCells_at P g (off + sLen * i.size) e news 0 cur w hg (by simpa using hfit) h1
  simp only [Nat.add_zero] at hst
  simp [Builtin.append_, run_underlying ht, sizeOf, typeInfo, hi, Builtin.lenOf, hroom, hf, Addr.add_lit, hst, splice]

section
variable {c : Ctx} {w0 w : World} {J : Nat → Prop} {s : FS} {a : Act} {β : Nat → Option Nat} {dst : Option Nat} {ty : TypeId} {pos : String} {after : Array Edge} {g : Option (Nat × Bool)}

theorem wr2_ob (s : FS) (id d : Nat) (b1 b2 : FObj) (k : Nat) : (s.wr [(id, b1), (d, b2)]).ob k = if d = k then b2 else if id = k then b1 else s.ob k := by
  show (FS.set (FS.set s id b1) d b2).ob k = _
  rw [FS.ob_set, FS.ob_set]

theorem Src.nonil (h : FR c.N w0 J s a w β) {y : Operand} {f2 : FV} {sz : Nat} {es2 : List (List FV)} (ey : s.ev y = f2) (h2 : Src s f2 sz es2) (h1 : es2.length = 1) :
    (∀ e ∈ es2, e.length = sz) ∧ (∀ f ∈ es2.flatten, f.one = true) ∧ ∃ ad cc us, a.eval y = .slice (some ad) 1 cc ∧ us.length = 1 * sz ∧ RdL w (Imm J w β s) us es2.flatten ∧ (∀ (j : Nat) u, us[j]? = some u → w.cell? (ad.add j) = some u) ∧ ∀ u ∈ us, u.oneCell' = true := by
  obtain ⟨hw, ho, A, cc, us, hy, hc, hr, hA, hcell⟩ := h.src ey h2
  refine ⟨hw, ho, ?_⟩
  cases A with
  | none => have := (hA rfl).2; rw [this] at h1; simp at h1
  | some ad =>
    refine ⟨ad, cc, us, by rw [hy, h1], by rw [hr.1, flat_length hw, h1], hr, hcell ad rfl, fun u hu => ?_⟩
    obtain ⟨j, hj, rfl⟩ := List.getElem_of_mem hu
    have hj2 : j < es2.flatten.length := by rw [← hr.1]; exact hj
    exact (hr.2 j _ es2.flatten[j] (by simp [hj]) (by simp)).oneCell (ho _ (List.getElem_mem hj2))

theorem good_appRoom (h : FR c.N w0 J s a w β) (d : Nat) {T e : Nat} (hT : (c.ty T).k = .slice e) (he : (c.ty e).k ≠ .other) (hpos : 0 < (c.ty e).size) (x y : Operand) {id ver o n : Nat} (ex : s.ev x = .own id ver o n) (hlf : (s.ob id).life = .roomy) (hver : (s.ob id).ver = ver)
    (hE : (s.ob id).E = e) (hsz : (s.ob id).sz = (c.ty e).size) (hon : o + n = (s.ob id).es.length) {f2 : FV} {es2 : List (List FV)} (ey : s.ev y = f2) (h2 : Src s f2 (c.ty e).size es2) (h1 : es2.length = 1) :
    Good c w0 J s a ⟨some d, .call { callee := .builtin .append, args := #[x, y], argTypes := #[T, T] }, ty, pos, after, g⟩ w (.own d ((s.ob d).ver + 1) o (n + 1)) [(id, { s.ob id with life := .dead }), (d, ⟨(s.ob d).ver + 1, .own, e, (c.ty e).size, (s.ob id).es ++ es2⟩)] := by
  obtain ⟨dd, ii, z, ht⟩ := c.get hT (by simp)
  have hd := ht.k
  rw [hT] at hd
  obtain rfl := kind_slice hd
  obtain ⟨d', i', z', ht'⟩ := c.get rfl he
  obtain ⟨hw2, ho2, ad, c2, us2, hy, hl2, hr2, hcell2, hone2⟩ := Src.nonil h ey h2 h1
  have hlive : (s.ob id).life ≠ .dead := by rw [hlf]; decide
  have hrl : (s.ob id).life.row = true := by rw [hlf]; rfl
  have hO := h.obj id hlive
  have hroom := hO.roomR hrl
  unfold RoomR at hroom
  rw [hlf] at hroom
  obtain ⟨b, cur, hb, hblk, hfit⟩ := hroom
  obtain ⟨v1, us1, r1, r2, r3⟩ := (hO.rowR hrl).row
  have hw1 := (hO.rowR hrl).wide
  have ho1 := (hO.rowR hrl).one
  have hlt := hO.lt hb
  obtain ⟨A, cc, e1, e2, e3, e4, e5⟩ := (h.ev_own ex hlive hver).ex
  obtain ⟨o', rfl, k2, k3⟩ := e5 b hb
  have hcur := k3 cur hblk
  rw [hE, hsz] at r1
  rw [hE] at hblk
  rw [hsz] at k2 hcur hw1 hfit
  generalize hes : (s.ob id).es = es at hon r1 r3 hw1 ho1 hfit
  generalize hszz : (c.ty e).size = sz at hpos hw1 hfit r1 hw2 hl2 hcur k2
  rcases r1.2 with ⟨rfl, _⟩ | ⟨g', cap, cur', rfl, _, hgg, hn, hcm, hcs, htk⟩
  · rw [← r2] at hb; simp [Value.ownBlock] at hb
  have hgb : g' = b := by rw [← r2] at hb; simpa [Value.ownBlock] using hb
  subst hgb
  rw [hblk] at hgg
  injection hgg with hgg
  injection hgg with hgg _ _
  subst hgg
  have hoc : o + cc = cap := Nat.eq_of_mul_eq_mul_right hpos (by rw [← hcur, hcs])
  have hcap : es.length + 1 ≤ cap := Nat.le_of_mul_le_mul_right (by rw [← hcs]; exact hfit) hpos
  have ho' : o' = o * sz := k2 (.inl (by omega))
  subst ho'
  have hlen : o * sz + n * sz = es.length * sz := by rw [← hon, Nat.add_mul]
  have hls : es.length * sz + sz ≤ cur.size := by rw [Nat.add_mul] at hfit; omega
  have hrun := run_append_room_off c.P w T ty e i' ht.u ht'.info g' (o * sz) n cc cur hblk ad 1 c2 us2 (by rw [ht'.size, hszz]; exact hl2) hcell2 hone2 (by omega) (by rw [ht'.size, hszz, hlen]; omega)
  rw [ht'.size, hszz, hlen] at hrun
  have hcl : cur.toList.length = cur.size := by simp
  have hul : us1.length = es.length * sz := r1.1
  obtain ⟨W, hW⟩ : ∃ W, W = w.setRow g' (splice cur.toList (es.length * sz) us2).toArray := ⟨_, rfl⟩
  rw [← hW] at hrun
  have hWb : W.heap[g']? = some (.cells (splice cur.toList (es.length * sz) us2).toArray e (0, 0)) := by rw [hW]; exact heap_setRow_same w g' _ cur _ hblk
  have hWs : (splice cur.toList (es.length * sz) us2).toArray.size = cur.size := by
    rw [List.size_toArray, splice_len (by rw [hcl]; omega), hcl]
  have hgr : w.grownBy W (some g') := by
    subst hW
    exact ⟨rfl, rfl, rfl, by simp [World.setRow], fun k hk hne => heap_setRow_ne w g' k _ (fun e => hne (by rw [e]))⟩
  have hlenes : (es ++ es2).length = es.length + 1 := by rw [List.length_append, h1]
  have hrow' : W.ownsRow w0.heap.size e sz (.slice (some ⟨g', 0, none⟩) (es.length + 1) cap) (es ++ es2).length (us1 ++ us2) := by
    rw [hlenes]
    refine ⟨by rw [List.length_append, hul, hl2, Nat.add_mul], .inr ⟨g', cap, _, rfl, hlt.1, hWb, hcap, hcm, by rw [hWs, hcs], ?_⟩⟩
    show (splice cur.toList (es.length * sz) us2).take ((es.length + 1) * sz) = us1 ++ us2
    unfold splice
    rw [← htk, List.append_assoc, List.take_append, List.take_take, Nat.min_eq_right (by rw [Nat.add_mul]; omega), List.length_take, Nat.min_eq_left (by omega), show (es.length + 1) * sz - es.length * sz = sz by rw [Nat.add_mul]; omega,
      List.take_append_of_le_length (by omega), List.take_of_length_le (by omega : us2.length ≤ sz)]
  have hexec : (execOp a.eval ⟨some d, .call { callee := .builtin .append, args := #[x, y], argTypes := #[T, T] }, ty, pos, after, g⟩).run c.P w = .ok (.value (.slice (some ⟨g', o * sz, none⟩) (n + 1) cc)) W := by
    simp [execOp, resolve, invoke, builtin, e1, hy, hrun]
  have hFR := h.make (some id) d (E := e) (sz := sz) (es := es ++ es2) (v := .slice (some ⟨g', 0, none⟩) (es.length + 1) cap) (xs := us1 ++ us2) (fun k hk => by injection hk with hk; subst hk; rw [hlf]; rfl) (by rw [Option.bind_some, hb]; exact hgr)
    (fun q hq => by
      rcases List.mem_append.1 hq with h' | h'
      · exact hw1 q h'
      · exact hw2 q h')
    (fun f hf => by
      rw [List.flatten_append] at hf
      rcases List.mem_append.1 hf with h' | h'
      · exact ho1 f h'
      · exact ho2 f h') hrow' (by rw [List.flatten_append]; exact r3.append hr2) (.inl (by rw [Option.bind_some, hb]; rfl)) (s' := s.wr [(id, { s.ob id with life := .dead }), (d, ⟨(s.ob d).ver + 1, .own, e, sz, es ++ es2⟩)]) (fun k => by
        rw [wr2_ob]
        split
        · rfl
        · by_cases hik : id = k
          · subst hik; simp
          · rw [if_neg hik, if_neg (by simpa using hik)]) (fun k => FS.wr_get _ _ _)
  have hobd : (s.wr [(id, { s.ob id with life := .dead }), (d, (⟨(s.ob d).ver + 1, .own, e, sz, es ++ es2⟩ : FObj))]).ob d = ⟨(s.ob d).ver + 1, .own, e, sz, es ++ es2⟩ := by rw [wr2_ob, if_pos rfl]
  refine ⟨_, W, _, hexec, hFR, fun _ _ => ?_, fun id' ver' e => ?_⟩
  · rw [hobd, updB_same]
    refine ⟨rfl, some ⟨g', o * sz, none⟩, cc, rfl, by omega, by show o + (n + 1) ≤ (es ++ es2).length; omega, (fun hb => by simp [Value.ownBlock] at hb), fun b' hb' => ?_⟩
    obtain rfl : g' = b' := by simpa [Value.ownBlock] using hb'
    refine ⟨o * sz, rfl, fun _ => rfl, fun cur' hc' => ?_⟩
    rw [hWb] at hc'
    injection hc' with hc'
    injection hc' with hc' _ _
    rw [← hc', hWs, hcur]
  · simp only [FV.hand, Option.some.injEq, Prod.mk.injEq] at e
    obtain ⟨rfl, rfl⟩ := e
    rw [hobd]
    exact Nat.le_refl _

theorem good_appFull (h : FR c.N w0 J s a w β) (d : Nat) {T e : Nat} (hT : (c.ty T).k = .slice e) (he : (c.ty e).k ≠ .other) (hpos : 0 < (c.ty e).size) (x y : Operand) {id ver o n : Nat} (ex : s.ev x = .own id ver o n) (hlf : (s.ob id).life = .full) (hver : (s.ob id).ver = ver)
    (hE : (s.ob id).E = e) (hsz : (s.ob id).sz = (c.ty e).size) (hon : o + n = (s.ob id).es.length) {f2 : FV} {es2 : List (List FV)} (ey : s.ev y = f2) (h2 : Src s f2 (c.ty e).size es2) (h1 : es2.length = 1)
    (hb : (n + 1) * (c.ty e).bytes ≤ 140737488355328) (hm : n + 1 ≤ 140737488355328) :
    Good c w0 J s a ⟨some d, .call { callee := .builtin .append, args := #[x, y], argTypes := #[T, T] }, ty, pos, after, g⟩ w (.own d ((s.ob d).ver + 1) 0 (n + 1)) [(id, { s.ob id with life := .dead }), (d, ⟨(s.ob d).ver + 1, .own, e, (c.ty e).size, (s.ob id).es.drop o ++ es2⟩)] := by
  obtain ⟨dd, ii, z, ht⟩ := c.get hT (by simp)
  have hd := ht.k
  rw [hT] at hd
  obtain rfl := kind_slice hd
  obtain ⟨d', i', z', ht'⟩ := c.get rfl he
  have hzs : z'.cells.size = (c.ty e).size := by
    have := (RdL.zeros (w := w) (I := Imm J w β s) ht'.zr).1
    rw [ht'.zl] at this; simpa using this
  obtain ⟨hw2, ho2, ad, c2, us2, hy, hl2, hr2, hcell2, hone2⟩ := Src.nonil h ey h2 h1
  have hlive : (s.ob id).life ≠ .dead := by rw [hlf]; decide
  have hrl : (s.ob id).life.row = true := by rw [hlf]; rfl
  have hO := h.obj id hlive
  have hroom := hO.roomR hrl
  unfold RoomR at hroom
  rw [hlf] at hroom
  obtain ⟨v1, us1, r1, r2, r3⟩ := (hO.rowR hrl).row
  have hw1 := (hO.rowR hrl).wide
  have ho1 := (hO.rowR hrl).one
  obtain ⟨A, cc, e1, e2, e3, e4, e5⟩ := (h.ev_own ex hlive hver).ex
  rw [hE, hsz] at r1
  rw [hsz] at hw1
  have hlenes : ((s.ob id).es.drop o ++ es2).length = n + 1 := by rw [List.length_append, List.length_drop, h1]; omega
  have hwd : ∀ q ∈ (s.ob id).es.drop o ++ es2, q.length = (c.ty e).size := fun q hq => by
    rcases List.mem_append.1 hq with h' | h'
    · exact hw1 q (List.mem_of_mem_drop h')
    · exact hw2 q h'
  have hfl : ((s.ob id).es.drop o).flatten = (s.ob id).es.flatten.drop (o * (c.ty e).size) := flat_dropE _ hw1 o
  have hod : ∀ f ∈ ((s.ob id).es.drop o ++ es2).flatten, f.one = true := fun f hf => by
    rw [List.flatten_append] at hf
    rcases List.mem_append.1 hf with h' | h'
    · rw [hfl] at h'; exact ho1 f (List.mem_of_mem_drop h')
    · exact ho2 f h'
  have hrd : RdL w (Imm J w β s) (us1.drop (o * (c.ty e).size) ++ us2) ((s.ob id).es.drop o ++ es2).flatten := by
    rw [List.flatten_append, hfl]
    exact (r3.drop _).append hr2
  -- the run
  obtain ⟨v', w', hrun, hrow', hgr, hblk⟩ : ∃ v' w', (Builtin.append_ #[T, T] ty #[a.eval x, a.eval y]).run c.P w = .ok v' w' ∧ w'.ownsRow w0.heap.size e (c.ty e).size v' (n + 1) (us1.drop (o * (c.ty e).size) ++ us2) ∧ w.grownBy w' none ∧
      (v'.ownBlock = none ∨ ∃ b, v'.ownBlock = some b ∧ w.heap.size ≤ b) := by
    rw [e1, hy]
    cases hb0 : β id with
    | none =>
      obtain ⟨rfl, rfl⟩ := e4 hb0
      obtain rfl : n = 0 := by omega
      rcases r1.2 with ⟨rfl, hz0⟩ | ⟨g', cap, cur', rfl, _⟩
      · have hu0 : us1 = [] := List.eq_nil_of_length_eq_zero (by rw [r1.1, hz0, Nat.zero_mul])
        subst hu0
        obtain ⟨v', w', q1, q2, q3, _, q5⟩ := run_append_own_at (P := c.P) w w0.heap.size T ty e i' z' (c.ty e).size (c.ty e).bytes ht.u ht'.info ht'.zo ht'.size ht'.bytes hzs hpos (.slice none 0 0) 0 [] (World.ownsRow_nil _ _ _ _) ad 1 c2 us2 hl2 hcell2 hone2 (by decide) (by simpa using hb) h.bel.size
        refine ⟨v', w', q1, by simpa using q2, q3, ?_⟩
        rcases q5 with e | e
        · exact .inl e
        · exact .inr ⟨_, e, Nat.le_refl _⟩
      · rw [hb0] at r2; simp [Value.ownBlock] at r2
    | some b =>
      obtain ⟨o', rfl, k2, k3⟩ := e5 b hb0
      rcases r1.2 with ⟨rfl, _⟩ | ⟨g', cap, cur, rfl, _, hgg, hn, hcm, hcs, htk⟩
      · rw [hb0] at r2; simp [Value.ownBlock] at r2
      have hgb : g' = b := by rw [hb0] at r2; simpa [Value.ownBlock] using r2
      subst hgb
      have hc1 := hroom g' cur hb0 (by rw [hE]; exact hgg)
      have hc2 := k3 cur (by rw [hE]; exact hgg)
      rw [hsz] at hc1 hc2 k2
      have hoc : o + cc = (s.ob id).es.length := Nat.eq_of_mul_eq_mul_right hpos (by rw [← hc2, hc1])
      obtain rfl : cc = n := by omega
      have hcl : us1.length = (s.ob id).es.length * (c.ty e).size := r1.1
      obtain ⟨v', w', q1, q2, q3⟩ := run_append_arg_grows (P := c.P) w T ty e i' z' (c.ty e).size (c.ty e).bytes ht.u ht'.info ht'.zo ht'.size ht'.bytes hzs hpos ⟨g', o', none⟩ cc cc (us1.drop (o * (c.ty e).size)) (by rw [List.length_drop, hcl, ← hon, Nat.add_mul]; omega)
        (fun j u hu => by
          rw [List.getElem?_drop] at hu
          have hj := (List.getElem?_eq_some_iff.1 hu).1
          have hcc0 : cc ≠ 0 := by rintro rfl; rw [hcl, ← hon, Nat.add_zero] at hj; omega
          have := k2 (.inl hcc0)
          subst this
          have hcell := r1.cells (g := g') rfl _ u hu
          rw [add_none] at hcell ⊢
          rwa [Nat.zero_add] at hcell) ad 1 c2 us2 hl2 hcell2 (by omega) (by unfold maxLen; omega) hb
      refine ⟨v', w', q1, own_mono q2 h.bel.size, q3, ?_⟩
      cases hvb : v'.ownBlock with
      | none => exact .inl rfl
      | some b2 => exact .inr ⟨b2, rfl, (q2.lt b2 hvb).1⟩
  have hexec : (execOp a.eval ⟨some d, .call { callee := .builtin .append, args := #[x, y], argTypes := #[T, T] }, ty, pos, after, g⟩).run c.P w = .ok (.value v') w' := by
    simp [execOp, resolve, invoke, builtin, hrun]
  rw [← hlenes] at hrow'
  have hFR := h.make (some id) d (E := e) (sz := (c.ty e).size) (es := (s.ob id).es.drop o ++ es2) (v := v') (xs := us1.drop (o * (c.ty e).size) ++ us2) (fun k hk => by injection hk with hk; subst hk; rw [hlf]; rfl) (grown_any hgr _) hwd hod hrow' hrd (.inr hblk)
    (s' := s.wr [(id, { s.ob id with life := .dead }), (d, ⟨(s.ob d).ver + 1, .own, e, (c.ty e).size, (s.ob id).es.drop o ++ es2⟩)]) (fun k => by
        rw [wr2_ob]
        split
        · rfl
        · by_cases hik : id = k
          · subst hik; simp
          · rw [if_neg hik, if_neg (by simpa using hik)]) (fun k => FS.wr_get _ _ _)
  have hobd : (s.wr [(id, { s.ob id with life := .dead }), (d, (⟨(s.ob d).ver + 1, .own, e, (c.ty e).size, (s.ob id).es.drop o ++ es2⟩ : FObj))]).ob d = ⟨(s.ob d).ver + 1, .own, e, (c.ty e).size, (s.ob id).es.drop o ++ es2⟩ := by rw [wr2_ob, if_pos rfl]
  refine ⟨v', w', _, hexec, hFR, fun _ _ => ?_, fun id' ver' e => ?_⟩
  · rw [hobd, updB_same]
    rw [← hlenes]
    exact OwnV.of_row hrow' rfl rfl rfl rfl
  · simp only [FV.hand, Option.some.injEq, Prod.mk.injEq] at e
    obtain ⟨rfl, rfl⟩ := e
    rw [hobd]
    exact Nat.le_refl _

/-- what a row of handles holds in its block -/
theorem FR.blockH (h : FR c.N w0 J s a w β) {id : Nat} (hlf : (s.ob id).life = .hrow) {b : Nat} (hb : β id = some b) :
    ∃ cur cap, w.heap[b]? = some (.cells cur (s.ob id).E (0, 0)) ∧ (s.ob id).es.length ≤ cap ∧ cap ≤ maxLen ∧ cur.size = cap * (s.ob id).sz ∧ (cur.toList.take ((s.ob id).es.length * (s.ob id).sz)).length = (s.ob id).es.flatten.length ∧
      ∀ (j : Nat) u f, (cur.toList.take ((s.ob id).es.length * (s.ob id).sz))[j]? = some u → (s.ob id).es.flatten[j]? = some f → VR w (Imm J w β s) β s u f := by
  have hlive : (s.ob id).life ≠ .dead := by rw [hlf]; decide
  obtain ⟨v, us, r1, r2, r3, r4⟩ := ((h.obj id hlive).rowH (by rw [hlf]; rfl) (by rw [hlf]; rfl)).row
  rcases r1.2 with ⟨rfl, _⟩ | ⟨g', cap, cur, rfl, _, hgg, hn, hm, hcs, htk⟩
  · rw [← r2] at hb; simp [Value.ownBlock] at hb
  · have hgb : g' = b := by rw [← r2] at hb; simpa [Value.ownBlock] using hb
    subst hgb
    subst htk
    exact ⟨cur, cap, hgg, hn, hm, hcs, r3, r4⟩

theorem flat1_get {α : Type} : ∀ (es : List (List α)), (∀ e ∈ es, e.length = 1) → ∀ (j : Nat) f, es[j]? = some [f] → es.flatten[j]? = some f
  | [], _, j, f, h => by simp at h
  | e :: es, he, 0, f, h => by simp at h; subst h; simp
  | e :: es, he, j + 1, f, h => by
    have h1 := he e (by simp)
    obtain ⟨x, rfl⟩ := List.length_eq_one_iff.1 h1
    simp at h
    simpa using flat1_get es (fun q hq => he q (by simp [hq])) j f h
theorem flat1_set {α : Type} : ∀ (es : List (List α)), (∀ e ∈ es, e.length = 1) → ∀ (j : Nat) f, (es.set j [f]).flatten = es.flatten.set j f
  | [], _, j, f => by simp
  | e :: es, he, 0, f => by
    obtain ⟨x, rfl⟩ := List.length_eq_one_iff.1 (he e (by simp))
    simp
  | e :: es, he, j + 1, f => by
    obtain ⟨x, rfl⟩ := List.length_eq_one_iff.1 (he e (by simp))
    simpa using flat1_set es (fun q hq => he q (by simp [hq])) j f

theorem good_loadH (h : FR c.N w0 J s a w β) {T : Nat} (hk : (c.ty T).k.agg? = some false) (hz : (c.ty T).size = 1) (x : Operand) {id ver j : Nat} (ex : s.ev x = .ptr id ver j 0) (hlf : (s.ob id).life = .hrow) (hver : (s.ob id).ver = ver) (hsz : (s.ob id).sz = 1) {f : FV} (hj : (s.ob id).es[j]? = some [f]) :
    Good c w0 J s a ⟨dst, .load T x, ty, pos, after, g⟩ w f [] := by
  have hlive : (s.ob id).life ≠ .dead := by rw [hlf]; decide
  obtain ⟨_, b, hb, hv⟩ := h.ev_ptr ex hlive hver
  obtain ⟨cur, cap, hblk, hn, hm, hcs, hl, hr⟩ := h.blockH hlf hb
  have hH := (h.obj id hlive).rowH (by rw [hlf]; rfl) (by rw [hlf]; rfl)
  have hw := hH.wide
  rw [hsz] at hv hcs hl hr hw
  have hjl := (List.getElem?_eq_some_iff.1 hj).1
  have hjf := flat1_get _ hw j f hj
  have hjc : j < cur.size := by omega
  have hu : (cur.toList.take ((s.ob id).es.length * 1))[j]? = some cur[j] := by
    rw [List.getElem?_take, if_pos (by omega)]; simp [hjc]
  have hcell : w.cell? ⟨b, j, none⟩ = some cur[j] := by
    have := cell_of_row w b j cur (s.ob id).E (0, 0) hblk
    rw [this]; simp [hjc]
  refine .pure h (v := cur[j]) ?_ (hr j _ f hu hjf) (fun id' ver' e => hH.vers f (List.mem_of_getElem? hjf) id' ver' e)
  have : (loadVar T ⟨b, j, none⟩).run c.P w = .ok cur[j] w := by simp [loadVar, run_isAgg hk, load, Sem.run, hcell]
  simp [execOp, Instr.loadAt, hv, Instr.sureAddr, this]

/-- fit for a cell of a row of handles -/
def CelOk (s : FS) (f : FV) : Prop := f.one = true ∨ ∃ id ver o n, f = .own id ver o n ∧ s.live id ver
theorem CelOk.val (h : FR c.N w0 J s a w β) {y : Operand} {f : FV} (ey : s.ev y = f) (hf : CelOk s f) : (a.eval y).cells = #[a.eval y] ∧ (a.eval y).oneCell' = true := by
  rcases hf with h1 | ⟨id, ver, o, n, rfl, hl⟩
  · have hn : f.hand = none := by cases f <;> first | rfl | (simp [FV.one] at h1)
    have hr := h.ev_rd ey hn
    generalize a.eval y = v at hr
    cases hr <;> first | exact ⟨rfl, rfl⟩ | (simp [FV.one] at h1)
  · obtain ⟨A, cc, e, _⟩ := (h.ev_own ey hl.1 hl.2).ex
    rw [e]
    exact ⟨rfl, rfl⟩

theorem good_storeH (h : FR c.N w0 J s a w β) {T : Nat} (hk : (c.ty T).k ≠ .other) (hz : (c.ty T).size = 1) (x y : Operand) {id ver j : Nat} (ex : s.ev x = .ptr id ver j 0) (hlf : (s.ob id).life = .hrow) (hver : (s.ob id).ver = ver) (hsz : (s.ob id).sz = 1) {f : FV} (ey : s.ev y = f)
    (hf : CelOk s f) (hj : j < (s.ob id).es.length) :
    ∃ w', (execOp a.eval ⟨dst, .store T x y, ty, pos, after, g⟩).run c.P w = .ok .skip w' ∧ FR c.N w0 J (s.wr [(id, { s.ob id with es := (s.ob id).es.set j [f] })]) a w' β := by
  have hlive : (s.ob id).life ≠ .dead := by rw [hlf]; decide
  obtain ⟨_, b, hb, hvx⟩ := h.ev_ptr ex hlive hver
  obtain ⟨cur, cap, hblk, hn, hm, hcs, hl, hr⟩ := h.blockH hlf hb
  have hH := (h.obj id hlive).rowH (by rw [hlf]; rfl) (by rw [hlf]; rfl)
  have hw := hH.wide
  obtain ⟨hc1, hc2⟩ := CelOk.val h ey hf
  have hvr := h.ev y
  have hvv : ∀ id' ver', f.hand = some (id', ver') → ver' ≤ (s.ob id').ver := fun id' ver' e => h.evers y (by rw [ey]; exact e)
  rw [ey] at hvr
  generalize hy : a.eval y = v at hc1 hc2 hvr
  rw [hsz] at hvx hcs hl hr hw
  have hst := run_storeCells_at c.P b j (s.ob id).E [v] 0 cur w hblk (by simp; omega) (by simpa using hc2)
  simp only [Nat.add_zero] at hst
  have hjc : j < cur.toList.length := by simp; omega
  obtain ⟨W, hW⟩ : ∃ W, W = w.setRow b (splice cur.toList j [v]).toArray := ⟨_, rfl⟩
  have hWb : W.heap[b]? = some (.cells (cur.toList.set j v).toArray (s.ob id).E (0, 0)) := by rw [hW, splice_set v hjc]; exact heap_setRow_same w b _ cur _ hblk
  have hg : w.grownBy W (some b) := by
    subst hW
    exact ⟨rfl, rfl, rfl, by simp [World.setRow], fun k hk hne => heap_setRow_ne w b k _ (fun e => hne (by rw [e]))⟩
  have hlt := (h.obj id hlive).lt hb
  refine ⟨W, ?_, ?_⟩
  · have hs := run_sizeOf (c := c) hk w
    have hst' : (storeCells ⟨b, j, none⟩ [v]).run c.P w = .ok () W := by rw [hW]; exact hst
    simp [execOp, Instr.storeAt, storeVar, hvx, hy, Instr.sureAddr, hs, hz, hc1, hst']
  · have hob : ∀ k, (s.wr [(id, { s.ob id with es := (s.ob id).es.set j [f] })]).ob k = if id = k then { s.ob id with es := (s.ob id).es.set j [f] } else s.ob k := fun k => FS.ob_set s id _ k
    have hI : ∀ b', Imm J w β s b' → Imm J W β (s.wr [(id, { s.ob id with es := (s.ob id).es.set j [f] })]) b' ∧ W.heap[b']? = w.heap[b']? := fun b' hbb => by
      refine ⟨⟨Nat.lt_of_lt_of_le hbb.1 hg.size, hbb.2.1, fun id' hl' => ?_⟩, hg.block b' hbb.1 (fun e => hbb.2.2 id (by rw [hlf]; rfl) (by rw [hb]; exact e.symm))⟩
      rw [hob] at hl'
      split at hl'
      · rename_i e; subst e; exact hbb.2.2 id (by rw [hlf]; rfl)
      · exact hbb.2.2 id' hl'
    refine h.step (C := fun k => k = id) h.size h.defers (h.bel.grown hg h.bel.size (fun k hk => by injection hk with hk; subst hk; exact hlt.1)) hI (fun k => .inl ⟨rfl, rfl⟩) (fun k hC => ?_) (fun k hC => ?_) (fun k hC hl2 hvv2 => ?_) (fun k hC hl2 T' => ?_) ?_
    · refine ⟨by rw [hob, if_neg (fun e => hC e.symm)], rfl, fun hl2 b' hbb => hg.block b' ((h.obj k hl2).lt hbb).2 (fun e => hC (h.inj k id b' hl2 hlive hbb (by rw [hb]; exact e.symm)))⟩
    · subst hC; rw [hob, if_pos rfl]; exact Nat.le_refl _
    · subst hC
      refine ⟨hlive, rfl, by rw [hob, if_pos rfl], by rw [hob, if_pos rfl], fun v2 o n hv2 => ?_⟩
      rw [hob, if_pos rfl]
      obtain ⟨A, cc, q1, q2, q3, q4, q5⟩ := hv2.ex
      refine ⟨hv2.row, A, cc, q1, q2, by simpa using q3, q4, fun b2 hbb => ?_⟩
      obtain ⟨o', k1, k2, k3⟩ := q5 b2 hbb
      refine ⟨o', k1, k2, fun cur' hc' => ?_⟩
      rw [hb] at hbb
      injection hbb with hbb
      subst hbb
      dsimp only at hc'
      rw [hWb] at hc'
      injection hc' with hc'
      injection hc' with hc' _ _
      rw [← hc']
      have := k3 cur hblk
      simpa using this
    · subst hC
      rw [hob, if_pos rfl]
      have hvers : ∀ id', (s.ob id').ver ≤ ((s.wr [(k, { s.ob k with es := (s.ob k).es.set j [f] })]).ob id').ver := fun id' => by
        rw [hob]; split
        · rename_i e; subst e; exact Nat.le_refl _
        · exact Nat.le_refl _
      have hfl := flat1_set _ hw j f
      have hfll : (s.ob k).es.flatten.length = (s.ob k).es.length := by have := flat_length hw; omega
      refine .ofH ⟨fun e he => ?_, fun f' hf' id' ver' e => ?_, .slice (some ⟨b, 0, none⟩) (s.ob k).es.length cap, (cur.toList.take ((s.ob k).es.length * 1)).set j v, ?_, by rw [hb]; rfl, ?_, fun i u f' hu hf' => ?_⟩ hlf
      · rw [hsz]
        rcases List.mem_or_eq_of_mem_set he with h' | h'
        · exact hw e h'
        · subst h'; rfl
      · dsimp only at hf'
        rw [hfl] at hf'
        refine Nat.le_trans ?_ (hvers id')
        rcases List.mem_or_eq_of_mem_set hf' with h' | h'
        · exact hH.vers f' h' id' ver' e
        · subst h'; exact hvv id' ver' e
      · rw [hsz]
        simp only [List.length_set]
        refine ⟨by rw [List.length_set, hl, hfll, Nat.mul_one], .inr ⟨b, cap, _, rfl, hlt.1, hWb, hn, hm, by simpa using hcs, ?_⟩⟩
        simp only [List.take_set]
      · dsimp only
        rw [List.length_set, hl, hfl, List.length_set]
      · dsimp only at hf'
        rw [hfl] at hf'
        rw [List.getElem?_set] at hu hf'
        by_cases hij : j = i
        · subst hij
          rw [if_pos rfl] at hu hf'
          split at hu
          · split at hf'
            · injection hu with hu
              injection hf' with hf'
              subst hu
              subst hf'
              exact T' _ _ hvr hvv
            · cases hf'
          · cases hu
        · rw [if_neg hij] at hu hf'
          exact T' _ _ (hr i u f' hu hf') (hH.vers f' (List.mem_of_getElem? hf'))
    · intro k k' b' hl2 hl2' e e'
      refine h.inj k k' b' ?_ ?_ e e'
      · rw [hob] at hl2; split at hl2
        · rename_i e; subst e; exact hlive
        · exact hl2
      · rw [hob] at hl2'; split at hl2'
        · rename_i e; subst e; exact hlive
        · exact hl2'
end
end Go.Proofs.Ythijndjgchbeoaa
