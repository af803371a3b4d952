/-
  slices.Backward at ints: what its iterator yields.
-/
import Derived.Test.YtbeebjdnapkhhaaZFmRng
import Derived.Test.YtbeebjdnapkhhaaZD
namespace Go.Proofs.Ytbeebjdnapkhhaa
set_option linter.unusedVariables false
open Go.RowKit

section
variable {P : Program} {n : Nat}
theorem zfs {o : Oper} {a : Act} {w : World} {K K' G : Act → World → Prop} {Q : Exit → Act → World → Prop} (h : o.wp P a w K (Xw G)) (hK : ∀ a w, K a w → K' a w) : o.wpIn Fence.wide n P a w K' Q := by
 refine ⟨fun _ _ => trivial, ?_⟩
 rw [show Fence.wide.round = none from rfl, Oper.semAt_none]
 unfold Oper.wp at h
 generalize (execOp a.eval o).run P w = r at *
 cases r with
 | ok nx w' =>
  cases nx with
  | value v => exact hK _ _ h
  | skip => exact hK _ _ h
  | defer d => exact hK _ _ h
  | enter f args => exact ⟨fun h => by simp [Fence.wide] at h, callsIn_wide.2 (Calls.mono h (fun e w'' he => by cases e <;> first | exact hK _ _ he | exact he.elim | (obtain ⟨_, _, q⟩ := he; exact q.elim)))⟩
  | row row args => exact ⟨fun h => by simp [Fence.wide] at h, fun c cs _ => let ⟨v, w', r, s⟩ := h c cs; ⟨v, w', hK _ _ r, stepsIn_wide.2 s⟩⟩
  | _ => exact h.elim
 | halt x w' => cases x <;> exact h.elim
theorem Yy {ops : Array Oper} {K : Act → World → Prop} {Q : Exit → Act → World → Prop} {L2 : List Oper} (hK : ∀ a w, K a w → wpListIn Fence.wide n P ops Q L2 a w) : ∀ {L : List Oper} {a : Act} {w : World}, wpList P ops (Xw K) L a w → wpListIn Fence.wide n P ops Q (L ++ L2) a w
 | [], a, w, hh => hK a w hh
 | o :: L, a, w, hh => by
  unfold wpList at hh
  rw [List.cons_append]
  unfold wpListIn
  split
  ·rename_i hw
   rw [if_pos hw] at hh
   rcases hh with hh | hh
   ·exact zfs hh (fun a w q => Yy hK q)
   ·exact absurd hh.2 (xv _)
  ·rename_i hw
   rw [if_neg hw] at hh
   exact ⟨fun _ _ => trivial, Yy hK hh⟩
theorem zdg {ops : Array Oper} {K : Act → World → Prop} {Q : Exit → Act → World → Prop} {L : List Oper} {a : Act} {w : World} (m : Nat) (h : wpList P ops (Xw K) (L.take m) a w) (hK : ∀ a w, K a w → wpListIn Fence.wide n P ops Q (L.drop m) a w) : wpListIn Fence.wide n P ops Q L a w := by
 have := Yy hK h
 rwa [List.take_append_drop] at this
theorem ZD {ops : Array Oper} {K : Act → World → Prop} {Q : Exit → Act → World → Prop} {L : List Oper} {a : Act} {w : World} (h : wpList P ops (Xw K) L a w) (hK : ∀ a w, K a w → Q .normal a w) : wpListIn Fence.wide n P ops Q L a w := by
 have := Yy (L2 := []) (Q := Q) (n := n) hK h
 rwa [List.append_nil] at this
theorem Wy {F : Fence} {ops : Array Oper} {Q : Exit → Act → World → Prop} {o : Oper} {rest : List Oper} {a : Act} {w : World} (hg : o.guard = none) (h : o.wpIn F n P a w (wpListIn F n P ops Q rest) Q) : wpListIn F n P ops Q (o :: rest) a w := by
 unfold wpListIn
 rw [if_pos (by unfold Region.wanted; rw [hg])]
 exact h
theorem VD {c : Ctx} {ops : Array Oper} {L : List Oper} {t t' : List (Nat × FV)} {I : Nat → Prop} {a : Act} {W : World} (hI : ∀ b, I b → b < W.heap.size) (hs : a.tmps.size = c.N) (hd : a.defers = []) (h : ∀ d, Rd W I (a.tmps.getD d undef) (look .undef t d)) (hn : ∀ d, (look .undef t d).hand = none)
  (hrun : zc c ops L ⟨t, []⟩ fun s' => s' = ⟨t', []⟩) :
  wpList c.P ops (Xw fun a' W' => (Below W.heap.size W W' ∧ a'.tmps.size = c.N ∧ a'.defers = [] ∧ (∀ d k m, look .undef t' d = .int k m → a'.tmps.getD d undef = .int k m) ∧ ∀ d b, look .undef t' d = .bool b → a'.tmps.getD d undef = .bool b) ∧ ∀ k, (L.all fun o => o.dst != some k) = true → a'.tmps.getD k undef = a.tmps.getD k undef) L a W := by
 have hF := FR.bare hI hs hd h hn
 refine xC (fun a' W' q => ⟨?_, q.2⟩) (Yx (hrun (Xw fun a' W' => ∃ β', FR c.N W { ok := fun b => I b ∨ W.heap.size ≤ b } ⟨t', []⟩ a' W' β') W _ a W _ (fun s a w β hs f => by subst hs; exact ⟨β, f⟩) hF))
 obtain ⟨β', f⟩ := q.1
 refine ⟨f.bel, f.size, f.defers, fun d k m e => ?_, fun d b e => f.ev_bool (x := .tmp d) (s := ⟨t', []⟩) e⟩
 exact f.ev_int (x := .tmp d) (s := ⟨t', []⟩) e
end

def zdq (es : List Int) : List (List FV) := (List.range es.length).map fun k => [.int .i64 ((es.length - 1 - k : Nat) : Int), .int .i64 (nth es (es.length - 1 - k))]
theorem XP (es : List Int) : (zdq es).length = es.length := by simp [zdq]
theorem zea {es : List Int} {k : Nat} (hk : k < es.length) : (zdq es).getD k [] = [.int .i64 ((es.length - 1 - k : Nat) : Int), .int .i64 (nth es (es.length - 1 - k))] := by
 unfold zdq
 rw [List.getD_eq_getElem?_getD, List.getElem?_map, List.getElem?_range hk]; rfl

/- Spec Try.prog 65 -/
set_option maxHeartbeats 1000000 in
theorem zag (es : List Int) (hl : es.length ≤ 1000000000) : ziY Try.prog 65 [.eptr 1 [[.list 1 (es.map zF)]] 0 0] (zdq es) where
 go := by kernel_rfl
 calls l lb J w hR h0 := by
  obtain ⟨yv, hyv⟩ : ∃ yv : Value, Value.func (.yield l) #[] #[] = yv := ⟨_, rfl⟩
  obtain ⟨v, hv⟩ : ∃ v, lb = [v] := by
   obtain ⟨I, _, h1, _⟩ := hR.cap 0 w h0
   match lb, h1 with
   | [v], _ => exact ⟨v, rfl⟩
  subst hv
  have hcap : ∀ k W, J k W → ∃ I : Nat → Prop, (∀ b, I b → b < W.heap.size) ∧ Rd W I v (.eptr 1 [[.list 1 (es.map zF)]] 0 0) := fun k W hW => let ⟨I, h1, h2⟩ := hR.cap k W hW; ⟨I, h1, h2.2 0 v _ rfl rfl⟩
  refine callsIn_of_wp Try.func65 rfl trivial ?_ rfl
  rw [Try.ntmps65, hyv]
  obtain ⟨a0, ha0⟩ : ∃ a0 : Act, { tmps := #[yv] ++ [v].toArray ++ Array.replicate (19 - (#[yv] ++ [v].toArray).size) undef, defers := [] } = a0 := ⟨_, rfl⟩
  rw [ha0]
  have s0 : a0.tmps.size = 19 := by rw [← ha0]; simp
  have d0 : a0.defers = [] := by rw [← ha0]
  have y0 : a0.tmps.getD 0 undef = yv := by rw [← ha0]; simp
  have v0 : a0.tmps.getD 1 undef = v := by rw [← ha0]; simp
  clear ha0
  obtain ⟨E, hE⟩ : ∃ E, FV.eptr 1 [[.list 1 (es.map zF)]] 0 0 = E := ⟨_, rfl⟩
  have hEh : E.hand = none := by rw [← hE]; rfl
  have run0 : ∀ {I : Nat → Prop} {W : World} {a : Act}, Rd W I v E → a.tmps.getD 1 undef = v → ∀ d, Rd W I (a.tmps.getD d undef) (look .undef [(1, E)] d) := fun hr e d => by
   match d with
   | 1 => rw [e]; exact hr
   | 0 => exact .undef _
   | d + 2 => exact .undef _
  have hn0 : ∀ d, (look .undef [(1, E)] d).hand = none := fun d => by
   match d with
   | 1 => exact hEh
   | 0 => rfl
   | d + 2 => rfl
  have run3 : ∀ {I : Nat → Prop} {W : World} {a : Act} {m : Int}, Rd W I v E → a.tmps.getD 1 undef = v → a.tmps.getD 3 undef = .int .i64 m → ∀ d, Rd W I (a.tmps.getD d undef) (look .undef [(1, E), (3, .int .i64 m)] d) := fun hr e e3 d => by
   match d with
   | 1 => rw [e]; exact hr
   | 0 => exact .undef _
   | 2 => exact .undef _
   | 3 => rw [e3]; exact .int _ _
   | d + 4 => exact .undef _
  have hn3 : ∀ {m : Int} (d : Nat), (look .undef [(1, E), (3, .int .i64 m)] d).hand = none := fun d => by
   match d with
   | 1 => exact hEh
   | 0 => rfl
   | 2 => rfl
   | 3 => rfl
   | d + 4 => rfl
  rw [hE] at hcap
  refine wpIn_seq ?_
  refine wpIn_region_lit ?_
  obtain ⟨I, hI, hr⟩ := hcap 0 w h0
  refine ZD (VD (c := (Zy Try.prog zG zA 19)) (t' := [(3, .int .i64 ((es.length : Int) - 1)), (6, .int .i64 ((es.length : Int) - 1)), (5, .int .i64 es.length), (4, .list 1 (es.map zF)), (1, E)]) hI s0 d0 (run0 hr v0) hn0 ?_) ?_
  ·subst hE
   (repeat (first | refine zc.nil ?_ | refine zB rfl rfl rfl (by simp; done) rfl rfl rfl rfl rfl ?_ | refine zm rfl rfl (by first | exact List.length_map _ | rfl | (simp; done)) rfl rfl ?_ | refine zc7 rfl rfl (by omega) rfl rfl ?_ | refine za rfl rfl rfl ?_))
   rfl
  rintro a1 w1 ⟨⟨hb1, s1, d1, hi1, _⟩, hk1⟩
  have y1 : a1.tmps.getD 0 undef = yv := (hk1 0 rfl).trans y0
  have v1 : a1.tmps.getD 1 undef = v := (hk1 1 rfl).trans v0
  have i1 : a1.tmps.getD 3 undef = .int .i64 ((es.length : Int) - 1) := hi1 3 _ _ rfl
  have j1 : J 0 w1 := hR.grow 0 w w1 h0 hb1
  show Code.wpIn _ _ _ _ _ _ _
  refine wpIn_block ?_
  refine YY (fun n a W => ∃ k, n = es.length - k ∧ k ≤ es.length ∧ J k W ∧ a.tmps.size = 19 ∧ a.defers = [] ∧ a.tmps.getD 0 undef = yv ∧ a.tmps.getD 1 undef = v ∧ a.tmps.getD 3 undef = .int .i64 ((es.length : Int) - 1 - k)) (es.length - 0)
   ⟨0, rfl, Nat.zero_le _, j1, s1, d1, y1, v1, by rw [i1]; simp⟩ ?_
  rintro _ a2 w2 ⟨k, rfl, hk, j2, s2, d2, y2, v2, i2⟩
  obtain ⟨m, hm⟩ : ∃ m : Int, (es.length : Int) - 1 - k = m := ⟨_, rfl⟩
  rw [hm] at i2
  refine wpIn_seq ?_
  refine wpIn_seq ?_
  refine wpIn_region_lit ?_
  obtain ⟨I2, hI2, hr2⟩ := hcap k w2 j2
  refine ZD (VD (c := (Zy Try.prog zG zA 19)) (t' := [(8, .bool (decide (m ≥ 0))), (7, .int .i64 m), (1, E), (3, .int .i64 m)]) hI2 s2 d2 (run3 hr2 v2 i2) hn3 ?_) ?_
  ·(repeat (first | refine zc.nil ?_ | refine zb rfl rfl rfl ?_ | refine zaY rfl rfl rfl rfl ?_))
   rfl
  rintro a3 w3 ⟨⟨hb3, s3, d3, hi3, hbo3⟩, hk3⟩
  have y3 : a3.tmps.getD 0 undef = yv := (hk3 0 rfl).trans y2
  have v3 : a3.tmps.getD 1 undef = v := (hk3 1 rfl).trans v2
  have i3 : a3.tmps.getD 3 undef = .int .i64 m := hi3 3 _ _ rfl
  have b3 : a3.eval (.tmp 8) = .bool (decide (m ≥ 0)) := hbo3 8 _ rfl
  have j3 : J k w3 := hR.grow k w2 w3 j2 hb3
  by_cases hm0 : m ≥ 0
  ·rw [decide_eq_true hm0] at b3
   refine wpIn_cond_true b3 ?_
   refine wpIn_skip ?_
   have hklt : k < es.length := by omega
   show Code.wpIn _ _ _ _ _ _ _
   refine wpIn_seq ?_
   refine wpIn_block ?_
   refine wpIn_seq ?_
   refine wpIn_region_lit ?_
   refine Wy rfl ?_
   refine ⟨fun _ _ => trivial, ?_⟩
   change wpListIn Fence.wide 0 Try.prog _ _ _ (a3.put (some 11) (a3.tmps.getD 0 undef)) w3
   rw [y3]
   obtain ⟨a4, h4⟩ : ∃ a4, a3.put (some 11) yv = a4 := ⟨_, rfl⟩
   have hk4 : ∀ d, d ≠ 11 → a4.tmps.getD d undef = a3.tmps.getD d undef := fun d hd => by rw [← h4]; exact Xg (fun e => hd (by injection e with e; exact e.symm))
   have s4 : a4.tmps.size = 19 := by rw [← h4]; show (a3.tmps.setIfInBounds 11 yv).size = 19; rw [Array.size_setIfInBounds]; exact s3
   have d4 : a4.defers = [] := by rw [← h4]; exact d3
   have y4 : a4.tmps.getD 11 undef = yv := by
    rw [← h4]; show (a3.tmps.setIfInBounds 11 yv).getD 11 undef = yv
    have : 11 < a3.tmps.size := by rw [s3]; decide
    simp [this]
   have z4 := (hk4 0 (by decide)).trans y3
   have v4 := (hk4 1 (by decide)).trans v3
   have i4 := (hk4 3 (by decide)).trans i3
   rw [h4]
   clear h4
   obtain ⟨q, hq⟩ : ∃ q, es.length - 1 - k = q := ⟨_, rfl⟩
   have hql : q < es.length := by omega
   obtain rfl : m = (q : Int) := by omega
   obtain ⟨I4, hI4, hr4⟩ := hcap k w3 j3
   refine zdg 5 (VD (c := (Zy Try.prog zG zA 19)) (t' := [(16, .int .i64 (nth es q)), (15, .eptr 1 (es.map zF) q 0), (14, .int .i64 q), (13, .list 1 (es.map zF)), (12, .int .i64 q), (1, E), (3, .int .i64 q)]) hI4 s4 d4 (run3 hr4 v4 i4) hn3 ?_) ?_
   ·subst hE
    dsimp only [List.take]
    (repeat (first | refine zc.nil ?_ | refine zB rfl rfl rfl (by first | (simp; omega) | (simp; done)) (by first | exact zd (by omega) | rfl) rfl rfl rfl rfl ?_ | refine zb rfl rfl rfl ?_ | refine zD rfl rfl rfl rfl rfl rfl (by first | (simp; omega) | (simp; done)) rfl rfl ?_))
    rfl
   rintro a5 w5 ⟨⟨hb5, s5, d5, hi5, _⟩, hk5⟩
   have y5 : a5.tmps.getD 0 undef = yv := (hk5 0 rfl).trans z4
   have v5 : a5.tmps.getD 1 undef = v := (hk5 1 rfl).trans v4
   have f5 : a5.tmps.getD 11 undef = yv := (hk5 11 rfl).trans y4
   have i5 : a5.tmps.getD 3 undef = .int .i64 q := hi5 3 _ _ rfl
   have p5 : a5.tmps.getD 12 undef = .int .i64 q := hi5 12 _ _ rfl
   have x5 : a5.tmps.getD 16 undef = .int .i64 (nth es q) := hi5 16 _ _ rfl
   have j5 : J k w5 := hR.grow k w3 w5 j3 hb5
   dsimp only [List.drop]
   refine Wy rfl ?_
   obtain ⟨fn, tmps, assign, body, hy, hround⟩ := hR.round k w5 (by rw [XP]; exact hklt) j5 [.int .i64 q, .int .i64 (nth es q)] (fun _ => False) (by
    rw [zea hklt, hq]
    exact RdL.cons (.int _ _) (RdL.cons (.int _ _) .nil))
   refine ⟨fun _ _ => trivial, ?_⟩
   rw [show Fence.wide.round = none from rfl, Oper.semAt_none]
   have hrun : ∀ (ty : TypeId) (pos : String) (af : Array Edge) (g : Option (Nat × Bool)), (execOp a5.eval ⟨some 17, .call { callee := .value (.tmp 11), args := #[.tmp 12, .tmp 16], argTypes := #[3, 3] }, ty, pos, af, g⟩).run Try.prog w5 = .ok (.round l fn tmps assign body) w5 := fun ty pos af g => by
    rw [← hy]
    have e1 : a5.eval (.tmp 11) = .func (.yield l) #[] #[] := f5.trans hyv.symm
    have e2 : a5.eval (.tmp 12) = .int .i64 q := p5
    have e3 : a5.eval (.tmp 16) = .int .i64 (nth es q) := x5
    simp [execOp, resolve, e1, e2, e3, Deferred.ofValue, invoke]
   rw [hrun, Oper.uponIn_round]
   refine ⟨fun h => by simp [Fence.wide] at h, hround.mono ?_⟩
   rintro e w6 ⟨rfl, j6⟩
   dsimp only
   obtain ⟨a6, h6⟩ : ∃ a6, a5.put (some 17) (.bool true) = a6 := ⟨_, rfl⟩
   have hk6 : ∀ d, d ≠ 17 → a6.tmps.getD d undef = a5.tmps.getD d undef := fun d hd => by rw [← h6]; exact Xg (fun e => hd (by injection e with e; exact e.symm))
   have s6 : a6.tmps.size = 19 := by rw [← h6]; show (a5.tmps.setIfInBounds 17 (.bool true)).size = 19; rw [Array.size_setIfInBounds]; exact s5
   have d6 : a6.defers = [] := by rw [← h6]; exact d5
   have b6 : a6.tmps.getD 17 undef = .bool true := by
    rw [← h6]; show (a5.tmps.setIfInBounds 17 (.bool true)).getD 17 undef = .bool true
    have : 17 < a5.tmps.size := by rw [s5]; decide
    simp [this]
   have y6 := (hk6 0 (by decide)).trans y5
   have v6 := (hk6 1 (by decide)).trans v5
   have i6 := (hk6 3 (by decide)).trans i5
   rw [h6]
   clear h6
   refine ZD (VD (c := (Zy Try.prog zG zA 19)) (t := [(17, .bool true)]) (t' := [(18, .bool false), (17, .bool true)]) (I := fun _ => False) (fun b h => h.elim) s6 d6 (fun d => ?_) (fun d => ?_) ?_) ?_
   ·by_cases e : d = 17
    ·subst e; rw [b6]; exact .bool _
    ·rw [zw, if_neg (fun h => e h.symm)]; exact .undef _
   ·by_cases e : d = 17
    ·subst e; rfl
    ·rw [zw, if_neg (fun h => e h.symm)]; rfl
   ·(repeat (first | refine zc.nil ?_ | refine Yz rfl rfl rfl ?_))
    rfl
   rintro a7 w7 ⟨⟨hb7, s7, d7, _, hbo7⟩, hk7⟩
   have y7 : a7.tmps.getD 0 undef = yv := (hk7 0 rfl).trans y6
   have v7 : a7.tmps.getD 1 undef = v := (hk7 1 rfl).trans v6
   have i7 : a7.tmps.getD 3 undef = .int .i64 q := (hk7 3 rfl).trans i6
   have b7 : a7.eval (.tmp 18) = .bool false := hbo7 18 _ rfl
   have j7 : J (k + 1) w7 := hR.grow (k + 1) w6 w7 j6 hb7
   show Code.wpIn _ _ _ _ _ _ _
   refine wpIn_cond_false b7 ?_
   refine wpIn_skip ?_
   show Code.wpIn _ _ _ _ _ _ _
   refine wpIn_region_lit ?_
   obtain ⟨I8, hI8, hr8⟩ := hcap (k + 1) w7 j7
   refine ZD (VD (c := (Zy Try.prog zG zA 19)) (t' := [(3, .int .i64 ((q : Int) - 1)), (10, .int .i64 ((q : Int) - 1)), (9, .int .i64 q), (1, E), (3, .int .i64 q)]) hI8 s7 d7 (run3 hr8 v7 i7) hn3 ?_) ?_
   ·(repeat (first | refine zc.nil ?_ | refine zc7 rfl rfl (by omega) rfl rfl ?_ | refine za rfl rfl rfl ?_ | refine zb rfl rfl rfl ?_))
    rfl
   rintro a8 w8 ⟨⟨hb8, s8, d8, hi8, _⟩, hk8⟩
   have y8 : a8.tmps.getD 0 undef = yv := (hk8 0 rfl).trans y7
   have v8 : a8.tmps.getD 1 undef = v := (hk8 1 rfl).trans v7
   have i8 : a8.tmps.getD 3 undef = .int .i64 ((q : Int) - 1) := hi8 3 _ _ rfl
   exact ⟨es.length - (k + 1), by omega, k + 1, rfl, by omega, hR.grow (k + 1) w7 w8 j7 hb8, s8, d8, y8, v8, by rw [i8]; congr 1; omega⟩
  ·rw [decide_eq_false hm0] at b3
   refine wpIn_cond_false b3 ?_
   refine wpIn_exit ?_
   obtain rfl : k = es.length := by omega
   have hfin : bodyPost Try.prog Try.f65 (fun e W' => (∃ v, e = Ending.returned v) ∧ J (zdq es).length W') .normal a3 w3 := by
    refine ⟨d3, .tuple #[], ?_, ⟨_, rfl⟩, by rw [XP]; exact j3⟩
    simp [results, Try.f65]
   exact hfin
end Go.Proofs.Ytbeebjdnapkhhaa
