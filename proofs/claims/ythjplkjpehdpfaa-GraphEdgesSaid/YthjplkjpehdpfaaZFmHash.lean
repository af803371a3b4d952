/-
  hash.Sum at plain values: the words of a string as they are yielded, then the numbers.
-/
import Derived.Test.YthjplkjpehdpfaaZFmBack
import Derived.Test.YthjplkjpehdpfaaZFmStr
namespace Go.Proofs.Ythjplkjpehdpfaa
set_option linter.unusedVariables false
open Go.RowKit

section
variable {P : Program} {n : Nat}
theorem zeF {c : Ctx} {code : Code} {t t' : List (Nat × FV)} {I : Nat → Prop} {a : Act} {W : World} (hI : ∀ b, I b → b < W.heap.size) (hs : a.tmps.size = c.N) (hd : a.defers = []) (h : ∀ d, Rd W I (a.tmps.getD d undef) (look .undef t d)) (hn : ∀ d, (look .undef t d).hand = none)
  (hm : c.P.follows .mixedOrders = true) (hrun : FW c code (fun e s' => e = .normal ∧ FLe s' ⟨t', []⟩) ⟨t, []⟩) :
  code.wp c.P (fun e a' W' => e = .normal ∧ Below W.heap.size W W' ∧ a'.tmps.size = c.N ∧ a'.defers = [] ∧ (∀ d k m, look .undef t' d = .int k m → a'.tmps.getD d undef = .int k m) ∧ (∀ d b, look .undef t' d = .bool b → a'.tmps.getD d undef = .bool b) ∧ ∀ k, VH code k = true → a'.tmps.getD k undef = a.tmps.getD k undef) a W := by
 have hF := FR.bare hI hs hd h hn
 refine Zw hm (zR (xl (hrun W _ a W _ hF)) ?_)
 rintro e a' w' ⟨⟨s', β', ⟨rfl, hle⟩, f0⟩, hk⟩
 obtain ⟨β2, f⟩ := hle _ _ _ _ _ _ f0
 refine ⟨rfl, f.bel, f.size, f.defers, fun d k m e => ?_, fun d b e => ?_, hk⟩
 ·exact f.ev_int (x := .tmp d) (s := ⟨t', []⟩) e
 ·exact f.ev_bool (x := .tmp d) (s := ⟨t', []⟩) e
end

def orU (a b : Int) : Int := IntKind.wrap .u64 (BitVec.ofInt IntKind.u64.bits a ||| BitVec.ofInt IntKind.u64.bits b).toNat
def zgN (a b : Int) : Int := IntKind.wrap .u64 (a * 2 ^ (min b.toNat IntKind.u64.bits))
def zgP (a b : Int) : Int := IntKind.wrap .u64 (BitVec.ofInt IntKind.u64.bits a ^^^ BitVec.ofInt IntKind.u64.bits b).toNat
def zbL (s : ByteArray) (k : Nat) : Nat := ((s[k]?).getD 0).toNat
def zex (s : ByteArray) (i : Nat) : Nat → Int
 | 0 => 0
 | m + 1 => orU (zex s i m) (zgN (zbL s (i + m)) (8 * (m : Int)))
def Xp (s : ByteArray) (i : Nat) : Int := zex s i (min (i + 8) s.size - i)
def xG (s : ByteArray) : Nat := (s.size + 7) / 8
def Vd (s : ByteArray) : List (List FV) := (List.range (xG s)).map fun k => [.int .u64 (Xp s (8 * k))]
theorem Xo (s : ByteArray) : (Vd s).length = xG s := by simp [Vd]
theorem zaO {s : ByteArray} {k : Nat} (hk : k < xG s) : (Vd s).getD k [] = [.int .u64 (Xp s (8 * k))] := by
 unfold Vd
 rw [List.getD_eq_getElem?_getD, List.getElem?_map, List.getElem?_range hk]; rfl
theorem zcm {s : ByteArray} {k : Nat} (hk : k < s.size) : ∃ u, s[k]? = some u ∧ zbL s k = u.toNat := by
 refine ⟨s[k], getElem?_pos s k hk, ?_⟩
 unfold zbL
 rw [getElem?_pos s k hk]; rfl
/- Spec Try.prog 47 -/
set_option maxHeartbeats 4000000 in
theorem zbG (s : ByteArray) (hsz : s.size ≤ 1000000000) : zfo Try.prog 47 [.eptr 1 [[.str s]] 0 0] (Vd s) where
 go := by kernel_rfl
 calls l lb J w hR h0 := by
  obtain ⟨yv, hyv⟩ : ∃ yv : Value, Value.func (.yield l) #[] #[] = yv := ⟨_, rfl⟩
  obtain ⟨v, hv⟩ : ∃ v, lb = [v] := by
   obtain ⟨I, _, h1, _⟩ := hR.cap 0 w h0
   match lb, h1 with
   | [v], _ => exact ⟨v, rfl⟩
  subst hv
  have hcap : ∀ k W, J k W → ∃ I : Nat → Prop, (∀ b, I b → b < W.heap.size) ∧ Rd W I v (.eptr 1 [[.str s]] 0 0) := fun k W hW => let ⟨I, h1, h2⟩ := hR.cap k W hW; ⟨I, h1, h2.2 0 v _ rfl rfl⟩
  refine callsIn_of_wp Try.func47 rfl trivial ?_ rfl
  rw [Try.ntmps47, hyv]
  obtain ⟨a0, ha0⟩ : ∃ a0 : Act, { tmps := #[yv] ++ [v].toArray ++ Array.replicate (37 - (#[yv] ++ [v].toArray).size) undef, defers := [] } = a0 := ⟨_, rfl⟩
  rw [ha0]
  have s0 : a0.tmps.size = 37 := by rw [← ha0]; simp
  have d0 : a0.defers = [] := by rw [← ha0]
  have y0 : a0.tmps.getD 0 undef = yv := by rw [← ha0]; simp
  have v0 : a0.tmps.getD 1 undef = v := by rw [← ha0]; simp
  clear ha0
  obtain ⟨E, hE⟩ : ∃ E, FV.eptr 1 [[.str s]] 0 0 = E := ⟨_, rfl⟩
  have hEh : E.hand = none := by rw [← hE]; rfl
  have run0 : ∀ {I : Nat → Prop} {W : World} {a : Act}, Rd W I v E → a.tmps.getD 1 undef = v → ∀ d, Rd W I (a.tmps.getD d undef) (look .undef [(1, E)] d) := fun hr e d => by
   match d with
   | 1 => rw [e]; exact hr
   | 0 => exact .undef _
   | d + 2 => exact .undef _
  have hn0 : ∀ d, (look .undef [(1, E)] d).hand = none := fun d => by
   match d with
   | 1 => exact hEh
   | 0 => rfl
   | d + 2 => rfl
  have run3 : ∀ {I : Nat → Prop} {W : World} {a : Act} {m : Int}, Rd W I v E → a.tmps.getD 1 undef = v → a.tmps.getD 3 undef = .int .i64 m → ∀ d, Rd W I (a.tmps.getD d undef) (look .undef [(1, E), (3, .int .i64 m)] d) := fun hr e e3 d => by
   match d with
   | 1 => rw [e]; exact hr
   | 0 => exact .undef _
   | 2 => exact .undef _
   | 3 => rw [e3]; exact .int _ _
   | d + 4 => exact .undef _
  have hn3 : ∀ {m : Int} (d : Nat), (look .undef [(1, E), (3, .int .i64 m)] d).hand = none := fun d => by
   match d with
   | 1 => exact hEh
   | 0 => rfl
   | 2 => rfl
   | 3 => rfl
   | d + 4 => rfl
  have run4 : ∀ {I : Nat → Prop} {W : World} {a : Act} {m x : Int}, Rd W I v E → a.tmps.getD 1 undef = v → a.tmps.getD 3 undef = .int .i64 m → a.tmps.getD 4 undef = .int .u64 x → ∀ d, Rd W I (a.tmps.getD d undef) (look .undef [(1, E), (3, .int .i64 m), (4, .int .u64 x)] d) := fun hr e e3 e4 d => by
   match d with
   | 1 => rw [e]; exact hr
   | 0 => exact .undef _
   | 2 => exact .undef _
   | 3 => rw [e3]; exact .int _ _
   | 4 => rw [e4]; exact .int _ _
   | d + 5 => exact .undef _
  have hn4 : ∀ {m x : Int} (d : Nat), (look .undef [(1, E), (3, .int .i64 m), (4, .int .u64 x)] d).hand = none := fun d => by
   match d with
   | 1 => exact hEh
   | 0 => rfl
   | 2 => rfl
   | 3 => rfl
   | 4 => rfl
   | d + 5 => rfl
  rw [hE] at hcap
  refine wpIn_seq ?_
  refine wpIn_region_lit ?_
  obtain ⟨I, hI, hr⟩ := hcap 0 w h0
  refine xh (YU (c := (xm Try.prog zw zn 37)) (t' := [(3, .int .i64 0), (1, E)]) hI s0 d0 (run0 hr v0) hn0 ?_) ?_
  ·(repeat (first | refine zd.nil ?_ | refine zc rfl rfl rfl ?_))
   rfl
  rintro a1 w1 ⟨⟨hb1, s1, d1, hi1, _⟩, hk1⟩
  have y1 : a1.tmps.getD 0 undef = yv := (hk1 0 rfl).trans y0
  have v1 : a1.tmps.getD 1 undef = v := (hk1 1 rfl).trans v0
  have i1 : a1.tmps.getD 3 undef = .int .i64 0 := hi1 3 _ _ rfl
  have j1 : J 0 w1 := hR.grow 0 w w1 h0 hb1
  show Code.wpIn _ _ _ _ _ _ _
  refine wpIn_block ?_
  refine ZI (fun n a W => ∃ k, n = xG s - k ∧ k ≤ xG s ∧ J k W ∧ a.tmps.size = 37 ∧ a.defers = [] ∧ a.tmps.getD 0 undef = yv ∧ a.tmps.getD 1 undef = v ∧ a.tmps.getD 3 undef = .int .i64 ((8 * k : Nat) : Int)) (xG s - 0)
   ⟨0, rfl, Nat.zero_le _, j1, s1, d1, y1, v1, by rw [i1]; simp⟩ ?_
  rintro _ a2 w2 ⟨k, rfl, hk, j2, s2, d2, y2, v2, i2⟩
  obtain ⟨m, hm⟩ : ∃ m, 8 * k = m := ⟨_, rfl⟩
  rw [hm] at i2
  refine wpIn_seq ?_
  refine wpIn_seq ?_
  refine wpIn_region_lit ?_
  obtain ⟨I2, hI2, hr2⟩ := hcap k w2 j2
  refine xh (YU (c := (xm Try.prog zw zn 37)) (t' := [(9, .bool (decide ((m : Int) < s.size))), (8, .int .i64 s.size), (7, .str s), (6, .int .i64 m), (1, E), (3, .int .i64 m)]) hI2 s2 d2 (run3 hr2 v2 i2) hn3 ?_) ?_
  ·subst hE
   (repeat (first | refine zb rfl rfl rfl ?_ | refine zC rfl rfl rfl (by simp; done) rfl rfl rfl rfl rfl ?_))
   refine WK rfl rfl rfl rfl ?_
   (repeat (first | refine zd.nil ?_ | refine zP rfl rfl rfl rfl ?_))
   rfl
  rintro a3 w3 ⟨⟨hb3, s3, d3, hi3, hbo3⟩, hk3⟩
  have y3 : a3.tmps.getD 0 undef = yv := (hk3 0 rfl).trans y2
  have v3 : a3.tmps.getD 1 undef = v := (hk3 1 rfl).trans v2
  have i3 : a3.tmps.getD 3 undef = .int .i64 m := hi3 3 _ _ rfl
  have b3 : a3.eval (.tmp 9) = .bool (decide ((m : Int) < s.size)) := hbo3 9 _ rfl
  have j3 : J k w3 := hR.grow k w2 w3 j2 hb3
  by_cases hm0 : (m : Int) < s.size
  ·rw [decide_eq_true hm0] at b3
   refine wpIn_cond_true b3 ?_
   refine wpIn_skip ?_
   have hklt : k < xG s := by unfold xG; omega
   show Code.wpIn _ _ _ _ _ _ _
   refine wpIn_seq ?_
   refine wpIn_block ?_
   refine wpIn_seq ?_
   refine wpIn_region_lit ?_
   obtain ⟨I3, hI3, hr3⟩ := hcap k w3 j3
   refine xh (YU (c := (xm Try.prog zw zn 37)) (t' := [(4, .int .u64 0), (1, E), (3, .int .i64 m)]) hI3 s3 d3 (run3 hr3 v3 i3) hn3 ?_) ?_
   ·(repeat (first | refine zd.nil ?_ | refine zc rfl rfl rfl ?_))
    rfl
   rintro a4 w4 ⟨⟨hb4, s4, d4, hi4, _⟩, hk4⟩
   have y4 : a4.tmps.getD 0 undef = yv := (hk4 0 rfl).trans y3
   have v4 : a4.tmps.getD 1 undef = v := (hk4 1 rfl).trans v3
   have i4 : a4.tmps.getD 3 undef = .int .i64 m := hi4 3 _ _ rfl
   have x4 : a4.tmps.getD 4 undef = .int .u64 0 := hi4 4 _ _ rfl
   have j4 : J k w4 := hR.grow k w3 w4 j3 hb4
   show Code.wpIn _ _ _ _ _ _ _
   refine wpIn_seq ?_
   obtain ⟨I4, hI4, hr4⟩ := hcap k w4 j4
   have hms : m < s.size := by omega
   refine wpIn_wide.2 (wp_mono (zeF (c := (xm Try.prog zw zn 37)) (t' := [(4, .int .u64 (Xp s m)), (1, E), (3, .int .i64 m)]) hI4 s4 d4 (run4 hr4 v4 i4 x4) hn4 rfl ?_) ?_)
   ·subst hE
    (repeat (first | refine FW.seq ?_ | refine FW.region ?_ | refine FW.block ?_ | refine zd.nil ?_ | refine zc rfl rfl rfl ?_ | refine zb rfl rfl rfl ?_))
    obtain ⟨M, hM⟩ : ∃ M, min (m + 8) s.size = M := ⟨_, rfl⟩
    have hMm : m ≤ M := by omega
    refine FW.loop (fun j : Nat => ⟨[(1, .eptr 1 [[.str s]] 0 0), (3, .int .i64 m), (4, .int .u64 (zex s m j)), (5, .int .i64 ((m + j : Nat) : Int))], []⟩) (fun j => m + j ≤ M) (fun j => M - (m + j)) 0 (by omega) (FLe.cv [] (by repeat (first | exact .nil)) (by repeat (first | exact .nil | refine .cons (.plain rfl rfl rfl) ?_))) ?_
    intro j hj
    (repeat (first | refine FW.seq ?_ | refine FW.region ?_ | refine zb rfl rfl rfl ?_ | refine zC rfl rfl rfl (by simp; done) rfl rfl rfl rfl rfl ?_ | refine zB rfl rfl (by omega) rfl rfl ?_))
    refine WK rfl rfl rfl rfl ?_
    (repeat (first | refine zd.nil ?_ | refine zP rfl rfl rfl rfl ?_ | refine zgw rfl rfl rfl rfl ?_))
    refine FW.cond rfl (fun hc => ?_) (fun hc => ?_)
    ·have hlt : m + j < M := by simp at hc; omega
     clear hc
     obtain ⟨u, hu, hbu⟩ := zcm (s := s) (k := m + j) (by omega)
     have hu8 : u.toNat < 256 := u.toNat_lt
     (repeat (first | refine FW.seq ?_ | refine FW.region ?_ | refine FW.block ?_ | refine FW.skip ?_ | refine zb rfl rfl rfl ?_ | refine zC rfl rfl rfl (by simp; done) rfl rfl rfl rfl rfl ?_))
     refine zed rfl rfl rfl hu rfl rfl ?_
     (repeat (first | refine FW.region ?_ | refine zd.nil ?_ | refine zc rfl rfl rfl ?_ | refine zb rfl rfl rfl ?_ | refine zB rfl rfl (by omega) rfl rfl ?_ | refine ZR rfl rfl rfl (by omega) rfl rfl ?_ | refine Zs rfl rfl (by omega) rfl rfl ?_ | refine zfH rfl rfl (by omega) rfl rfl ?_ | refine zgy rfl rfl (by omega) rfl rfl ?_ | refine ze2 rfl rfl rfl rfl ?_))
     refine ⟨j + 1, by omega, by omega, ?_⟩
     have hwd : zex s m (j + 1) = orU (zex s m j) (zgN (u.toNat : Int) (8 * (((m + j : Nat) : Int) - (m : Int)))) := by
      show orU _ (zgN (zbL s (m + j)) (8 * (j : Int))) = _
      rw [hbu, show ((m + j : Nat) : Int) - (m : Int) = (j : Int) by omega]
     rw [hwd]
     exact (FLe.cv [] (by repeat (first | exact .nil)) (by repeat (first | exact .nil | refine .cons (.plain rfl rfl rfl) ?_)))
    ·have hje : m + j = M := by simp at hc; omega
     (repeat (first | refine FW.exit ?_))
     refine ⟨rfl, ?_⟩
     unfold Xp
     rw [hM, show M - m = j by omega]
     exact (FLe.cv [] (by repeat (first | exact .nil)) (by repeat (first | exact .nil | refine .cons (.plain rfl rfl rfl) ?_)))
   rintro e a5 w5 ⟨rfl, hb5, s5, d5, hi5, _, hk5⟩
   have y5 : a5.tmps.getD 0 undef = yv := (hk5 0 (by kernel_rfl)).trans y4
   have v5 : a5.tmps.getD 1 undef = v := (hk5 1 (by kernel_rfl)).trans v4
   have i5 : a5.tmps.getD 3 undef = .int .i64 m := hi5 3 _ _ rfl
   have x5 : a5.tmps.getD 4 undef = .int .u64 (Xp s m) := hi5 4 _ _ rfl
   have j5 : J k w5 := hR.grow k w4 w5 j4 hb5
   show Code.wpIn _ _ _ _ _ _ _
   refine wpIn_seq ?_
   refine wpIn_region_lit ?_
   refine YT rfl ?_
   refine ⟨fun _ _ => trivial, ?_⟩
   change wpListIn Fence.wide 0 Try.prog _ _ _ (a5.put (some 33) (a5.tmps.getD 0 undef)) w5
   rw [y5]
   obtain ⟨a6, h6⟩ : ∃ a6, a5.put (some 33) yv = a6 := ⟨_, rfl⟩
   have hk6 : ∀ d, d ≠ 33 → a6.tmps.getD d undef = a5.tmps.getD d undef := fun d hd => by rw [← h6]; exact ZP (fun e => hd (by injection e with e; exact e.symm))
   have s6 : a6.tmps.size = 37 := by rw [← h6]; show (a5.tmps.setIfInBounds 33 yv).size = 37; rw [Array.size_setIfInBounds]; exact s5
   have d6 : a6.defers = [] := by rw [← h6]; exact d5
   have f6 : a6.tmps.getD 33 undef = yv := by
    rw [← h6]; show (a5.tmps.setIfInBounds 33 yv).getD 33 undef = yv
    have : 33 < a5.tmps.size := by rw [s5]; decide
    simp [this]
   have y6 := (hk6 0 (by decide)).trans y5
   have v6 := (hk6 1 (by decide)).trans v5
   have i6 := (hk6 3 (by decide)).trans i5
   have x6 := (hk6 4 (by decide)).trans x5
   rw [h6]
   clear h6
   obtain ⟨I6, hI6, hr6⟩ := hcap k w5 j5
   refine zaP 1 (YU (c := (xm Try.prog zw zn 37)) (t' := [(34, .int .u64 (Xp s m)), (1, E), (3, .int .i64 m), (4, .int .u64 (Xp s m))]) hI6 s6 d6 (run4 hr6 v6 i6 x6) hn4 ?_) ?_
   ·dsimp only [List.take]
    (repeat (first | refine zd.nil ?_ | refine zb rfl rfl rfl ?_))
    rfl
   rintro a7 w7 ⟨⟨hb7, s7, d7, hi7, _⟩, hk7⟩
   have y7 : a7.tmps.getD 0 undef = yv := (hk7 0 rfl).trans y6
   have v7 : a7.tmps.getD 1 undef = v := (hk7 1 rfl).trans v6
   have f7 : a7.tmps.getD 33 undef = yv := (hk7 33 rfl).trans f6
   have i7 : a7.tmps.getD 3 undef = .int .i64 m := hi7 3 _ _ rfl
   have x7 : a7.tmps.getD 34 undef = .int .u64 (Xp s m) := hi7 34 _ _ rfl
   have j7 : J k w7 := hR.grow k w5 w7 j5 hb7
   dsimp only [List.drop]
   refine YT rfl ?_
   obtain ⟨fn, tmps, assign, body, hy, hround⟩ := hR.round k w7 (by rw [Xo]; exact hklt) j7 [.int .u64 (Xp s m)] (fun _ => False) (by
    rw [zaO hklt, hm]
    exact RdL.cons (.int _ _) .nil)
   refine ⟨fun _ _ => trivial, ?_⟩
   rw [show Fence.wide.round = none from rfl, Oper.semAt_none]
   have hrun : ∀ (ty : TypeId) (pos : String) (af : Array Edge) (g : Option (Nat × Bool)), (execOp a7.eval ⟨some 35, .call { callee := .value (.tmp 33), args := #[.tmp 34], argTypes := #[41] }, ty, pos, af, g⟩).run Try.prog w7 = .ok (.round l fn tmps assign body) w7 := fun ty pos af g => by
    rw [← hy]
    have e1 : a7.eval (.tmp 33) = .func (.yield l) #[] #[] := f7.trans hyv.symm
    have e2 : a7.eval (.tmp 34) = .int .u64 (Xp s m) := x7
    simp [execOp, resolve, e1, e2, Deferred.ofValue, invoke]
   rw [hrun, Oper.uponIn_round]
   refine ⟨fun h => by simp [Fence.wide] at h, hround.mono ?_⟩
   rintro e w8 ⟨rfl, j8⟩
   dsimp only
   obtain ⟨a8, h8⟩ : ∃ a8, a7.put (some 35) (.bool true) = a8 := ⟨_, rfl⟩
   have hk8 : ∀ d, d ≠ 35 → a8.tmps.getD d undef = a7.tmps.getD d undef := fun d hd => by rw [← h8]; exact ZP (fun e => hd (by injection e with e; exact e.symm))
   have s8 : a8.tmps.size = 37 := by rw [← h8]; show (a7.tmps.setIfInBounds 35 (.bool true)).size = 37; rw [Array.size_setIfInBounds]; exact s7
   have d8 : a8.defers = [] := by rw [← h8]; exact d7
   have b8 : a8.tmps.getD 35 undef = .bool true := by
    rw [← h8]; show (a7.tmps.setIfInBounds 35 (.bool true)).getD 35 undef = .bool true
    have : 35 < a7.tmps.size := by rw [s7]; decide
    simp [this]
   have y8 := (hk8 0 (by decide)).trans y7
   have v8 := (hk8 1 (by decide)).trans v7
   have i8 := (hk8 3 (by decide)).trans i7
   rw [h8]
   clear h8
   refine xh (YU (c := (xm Try.prog zw zn 37)) (t := [(35, .bool true)]) (t' := [(36, .bool false), (35, .bool true)]) (I := fun _ => False) (fun b h => h.elim) s8 d8 (fun d => ?_) (fun d => ?_) ?_) ?_
   ·by_cases e : d = 35
    ·subst e; rw [b8]; exact .bool _
    ·rw [zm, if_neg (fun h => e h.symm)]; exact .undef _
   ·by_cases e : d = 35
    ·subst e; rfl
    ·rw [zm, if_neg (fun h => e h.symm)]; rfl
   ·(repeat (first | refine zd.nil ?_ | refine Xz rfl rfl rfl ?_))
    rfl
   rintro a9 w9 ⟨⟨hb9, s9, d9, _, hbo9⟩, hk9⟩
   have y9 : a9.tmps.getD 0 undef = yv := (hk9 0 rfl).trans y8
   have v9 : a9.tmps.getD 1 undef = v := (hk9 1 rfl).trans v8
   have i9 : a9.tmps.getD 3 undef = .int .i64 m := (hk9 3 rfl).trans i8
   have b9 : a9.eval (.tmp 36) = .bool false := hbo9 36 _ rfl
   have j9 : J (k + 1) w9 := hR.grow (k + 1) w8 w9 j8 hb9
   show Code.wpIn _ _ _ _ _ _ _
   refine wpIn_cond_false b9 ?_
   refine wpIn_skip ?_
   show Code.wpIn _ _ _ _ _ _ _
   refine wpIn_region_lit ?_
   obtain ⟨I9, hI9, hr9⟩ := hcap (k + 1) w9 j9
   refine xh (YU (c := (xm Try.prog zw zn 37)) (t' := [(3, .int .i64 ((m : Int) + 8)), (11, .int .i64 ((m : Int) + 8)), (10, .int .i64 m), (1, E), (3, .int .i64 m)]) hI9 s9 d9 (run3 hr9 v9 i9) hn3 ?_) ?_
   ·(repeat (first | refine zd.nil ?_ | refine zc rfl rfl rfl ?_ | refine zb rfl rfl rfl ?_ | refine zB rfl rfl (by omega) rfl rfl ?_))
    rfl
   rintro a10 w10 ⟨⟨hb10, s10, d10, hi10, _⟩, hk10⟩
   have y10 : a10.tmps.getD 0 undef = yv := (hk10 0 rfl).trans y9
   have v10 : a10.tmps.getD 1 undef = v := (hk10 1 rfl).trans v9
   have i10 : a10.tmps.getD 3 undef = .int .i64 ((m : Int) + 8) := hi10 3 _ _ rfl
   exact ⟨xG s - (k + 1), by omega, k + 1, rfl, by omega, hR.grow (k + 1) w9 w10 j9 hb10, s10, d10, y10, v10, by rw [i10]; congr 1; omega⟩
  ·rw [decide_eq_false hm0] at b3
   refine wpIn_cond_false b3 ?_
   refine wpIn_exit ?_
   obtain rfl : k = xG s := by unfold xG at hk ⊢; omega
   have hfin : bodyPost Try.prog Try.f47 (fun e W' => (∃ v, e = Ending.returned v) ∧ J (Vd s).length W') .normal a3 w3 := by
    refine ⟨d3, .tuple #[], ?_, ⟨_, rfl⟩, by rw [Xo]; exact j3⟩
    simp [results, Try.f47]
   exact hfin
theorem GW.at {c : Ctx} {w0 : World} {J : JJ} {code : Code} {QQ : Exit → Act → World → Prop} {s : FSt} {a : Act} {w : World} {β : Nat → Option Nat} (h : GW c w0 J code QQ s) (hF : FR c.N w0 J s a w β) : code.wp c.P QQ a w := h a w β hF
theorem zde (s : ByteArray) : yj Try.prog 38 [.str s] .sh (.fn 47 [.eptr 1 [[.str s]] 0 0]) := by
 refine yj.of_body (c := (xm Try.prog zw zn 4)) ⟨Try.func38, rfl, Try.ntmps38, by kernel_rfl⟩ (by simp [FV.hand]) (by exact Nat.le_of_ble_eq_true rfl) rfl ?_
 change FW _ _ _ ⟨[(0, .str s)], []⟩
 (repeat (first | refine FW.seq ?_ | refine FW.region ?_ | refine zd.nil ?_ | refine zea rfl rfl rfl rfl rfl ?_ | refine zc rfl rfl rfl ?_))
 refine zd.le ?_ (FLe.shareP 1 rfl rfl)
 (repeat (first | refine zd.nil ?_ | refine zc rfl rfl rfl ?_ | refine zc3 rfl rfl rfl rfl ?_))
 exact FW.ret ⟨.inl rfl, .sh (.cons (.tmp 2 rfl rfl) .nil) rfl rfl⟩
def zdm (s w : Int) : Int := zgP (IntKind.wrap .u64 (zgP s w * 11400714819323198485)) ((IntKind.wrap .u64 (zgP s w * 11400714819323198485)).fdiv (2 ^ (min (Int.toNat 32) IntKind.u64.bits)))
theorem YE (s w : Int) : yj Try.prog 39 [.int .u64 s, .int .u64 w] .fr (.int .u64 (zdm s w)) := by
 refine yj.of_body (c := (xm Try.prog zw zn 14)) ⟨Try.func39, rfl, Try.ntmps39, by kernel_rfl⟩ (by simp [FV.hand]) (by exact Nat.le_of_ble_eq_true rfl) rfl ?_
 change FW _ _ _ ⟨[(0, .int .u64 s), (1, .int .u64 w)], []⟩
 (repeat (first | refine FW.seq ?_ | refine FW.region ?_ | refine zd.nil ?_ | refine zc rfl rfl rfl ?_ | refine zb rfl rfl rfl ?_))
 refine zfJ rfl rfl rfl rfl ?_
 refine Xk rfl rfl rfl rfl ?_
 (repeat (first | refine FW.seq ?_ | refine FW.region ?_ | refine zd.nil ?_ | refine zc rfl rfl rfl ?_ | refine zb rfl rfl rfl ?_ | refine VU rfl rfl (by omega) rfl rfl ?_))
 refine zfJ rfl rfl rfl rfl ?_
 (repeat (first | refine zd.nil ?_ | refine zc rfl rfl rfl ?_))
 exact FW.ret ⟨.inl rfl, yy rfl rfl rfl rfl⟩
def zfe (s : ByteArray) : Nat → Int
 | 0 => 0
 | k + 1 => zdm (zfe s k) (Xp s (8 * k))
def UH (h : Int) (l : List Int) (i : Nat) : Int := (l.take i).foldl (fun h x => zdm h (IntKind.wrap .u64 x)) h
def zgO (s : ByteArray) (l : List Int) : Int := zdm (UH (zdm (zdm (zfe s (xG s)) s.size) l.length) l l.length) 0
set_option maxHeartbeats 4000000 in
theorem zff (s : ByteArray) (hsz : s.size ≤ 1000000000) (l : List Int) (hl : l.length ≤ 1000000000) : yj Try.prog 21 [.str s, .list 1 (l.map zt)] .sh (.int .u64 (zgO s l)) := by
 refine yj.of_bodyR (c := (xm Try.prog zw zn 37)) ⟨Try.func21, rfl, Try.ntmps21, by kernel_rfl⟩ (by simp [FV.hand]) (by exact Nat.le_of_ble_eq_true rfl) rfl ?_
 intro w0 J hds
 change GW _ _ _ _ _ ⟨[(0, .str s), (1, .list 1 (l.map zt))], []⟩
 refine GW.seq ?_
 (repeat (first | refine FW.region ?_ | refine zd.nil ?_ | refine zc rfl rfl rfl ?_))
 change GW _ _ _ _ _ _
 refine GW.seq ?_
 (repeat (first | refine FW.region ?_ | refine zd.nil ?_ | refine xa rfl rfl rfl rfl rfl rfl rfl ?_ | refine yr rfl rfl rfl rfl rfl rfl rfl rfl rfl ?_))
 change GW _ _ _ _ _ _
 refine GW.seqG ?_
 refine GW.seq ?_
 (repeat (first | refine FW.region ?_ | refine zb rfl rfl rfl ?_))
 refine yc (zde s) (by repeat (first | exact zu.nil | refine zu.cons (by exact yU.plain rfl rfl) ?_)) rfl rfl ?_
 refine zd.nil ?_
 have hw := zbG s hsz
 have hWl := Xo s
 refine GW.le (s' := ⟨[(0, .str s), (1, .list 1 (l.map zt)), (5, .ptr 100 0 0 0), (10, .fn 47 [.eptr 1 [[.str s]] 0 0])], [(100, ⟨0, .own, 41, 1, [[.int .u64 (zfe s 0)]]⟩)]⟩) ?_ ?_
 ·refine GW.block ?_
  refine GW.range (c := (xm Try.prog zw zn 37)) (ps := [11]) (inv := fun k => [(100, ⟨0, .own, 41, 1, [[.int .u64 (zfe s k)]]⟩)]) hw hds rfl ⟨10, rfl⟩ ?_ ?_ (FLe.refl _) ?_ (by kernel_rfl) (by kernel_rfl) ?_ ?_
  ·intro y hy
   unfold Vd at hy
   obtain ⟨k, _, rfl⟩ := List.mem_map.1 hy
   exact ⟨rfl, rfl⟩
  ·intro p hp
   simp at hp
   subst hp; decide
  ·intro d hd
   have : d = 0 ∨ d = 1 ∨ d = 5 ∨ d = 10 := by
    refine Classical.byContradiction fun hno => hd ?_
    simp only [not_or] at hno
    rw [zm, if_neg (fun e => hno.1 e.symm), zm, if_neg (fun e => hno.2.1 e.symm), zm, if_neg (fun e => hno.2.2.1 e.symm), zm, if_neg (fun e => hno.2.2.2 e.symm)]
    rfl
   rcases this with rfl | rfl | rfl | rfl <;> exact ⟨by kernel_rfl, by kernel_rfl, by decide⟩
  ·intro k hk
   rw [hWl] at hk
   rw [zaO hk]
   have hm := YE (zfe s k) (Xp s (8 * k))
   (repeat (first | refine FW.region ?_ | refine zd.nil ?_ | refine zc rfl rfl rfl ?_))
   refine ⟨rfl, ?_⟩
   (repeat (first | refine FW.region ?_ | refine FW.block ?_ | refine zb rfl rfl rfl ?_ | refine zG rfl rfl rfl rfl rfl (by simp; done) rfl rfl rfl rfl rfl ?_))
   refine zW hm (by repeat (first | exact zu.nil | refine zu.cons (by exact yU.plain rfl rfl) ?_)) rfl rfl ?_
   (repeat (first | refine zd.nil ?_ | refine yr rfl rfl rfl rfl rfl rfl rfl rfl rfl ?_))
   exact ⟨rfl, (FLe.cv [⟨100, some 100, 0, ⟨0, .own, 41, 1, [[.int .u64 (zdm (zfe s k) (Xp s (8 * k)))]]⟩⟩] (by repeat (first | exact .nil | refine .old rfl (by decide) rfl ?_)) (by repeat (first | exact .nil | refine .cons (.plain rfl rfl rfl) ?_ | refine .cons (.ptr rfl (.head _) rfl) ?_)))⟩
  ·intro J' hM a w β hF
   rw [hWl] at hF
   change Code.wp _ _ _ a w
   refine GW.at ?_ hF
   have hm1 := YE (zfe s (xG s)) s.size
   have hm2 := YE (zdm (zfe s (xG s)) s.size) l.length
   obtain ⟨h0, hh0⟩ : ∃ h0, zdm (zdm (zfe s (xG s)) s.size) l.length = h0 := ⟨_, rfl⟩
   rw [hh0] at hm2
   obtain ⟨R, hR⟩ : ∃ R, zgO s l = R := ⟨_, rfl⟩
   have hR2 : zdm (UH h0 l l.length) 0 = R := by rw [← hR, ← hh0]; rfl
   rw [hR]
   refine GW.seq ?_
   (repeat (first | refine FW.region ?_ | refine zb rfl rfl rfl ?_ | refine zG rfl rfl rfl rfl rfl (by simp; done) rfl rfl rfl rfl rfl ?_))
   refine WK rfl rfl rfl rfl ?_
   (repeat (first | refine ZR rfl rfl rfl (by omega) rfl rfl ?_))
   refine zW hm1 (by repeat (first | exact zu.nil | refine zu.cons (by exact yU.plain rfl rfl) ?_)) rfl rfl ?_
   (repeat (first | refine zb rfl rfl rfl ?_ | refine zA rfl rfl (by first | exact List.length_map _ | omega) rfl rfl ?_ | refine ZR rfl rfl rfl (by omega) rfl rfl ?_))
   refine zW hm2 (by repeat (first | exact zu.nil | refine zu.cons (by exact yU.plain rfl rfl) ?_)) rfl rfl ?_
   (repeat (first | refine zd.nil ?_ | refine yr rfl rfl rfl rfl rfl rfl rfl rfl rfl ?_))
   change GW _ _ _ _ _ _
   refine GW.of ?_
   (repeat (first | refine FW.seq ?_ | refine FW.region ?_ | refine FW.block ?_ | refine zd.nil ?_ | refine zb rfl rfl rfl ?_ | refine zA rfl rfl (by exact List.length_map _) rfl rfl ?_))
   refine FW.loop (fun i : Nat => ⟨[(5, .ptr 100 0 0 0), (24, .list 1 (l.map zt)), (25, .int .i64 l.length), (26, .int .i64 i)], [(100, ⟨0, .own, 41, 1, [[.int .u64 (UH h0 l i)]]⟩)]⟩) (fun i => i ≤ l.length) (fun i => l.length - i) 0 (Nat.zero_le _) ?_ ?_
   ·show FLe _ ⟨[(5, .ptr 100 0 0 0), (24, .list 1 (l.map zt)), (25, .int .i64 l.length), (26, .int .i64 0)], [(100, ⟨0, .own, 41, 1, [[.int .u64 h0]]⟩)]⟩
    exact (FLe.cv [⟨100, some 100, 0, ⟨0, .own, 41, 1, [[.int .u64 h0]]⟩⟩] (by repeat (first | exact .nil | refine .old rfl (by decide) rfl ?_)) (by repeat (first | exact .nil | refine .cons (.plain rfl rfl rfl) ?_ | refine .cons (.ptr rfl (.head _) rfl) ?_)))
   intro i hi
   (repeat (first | refine FW.seq ?_ | refine FW.region ?_ | refine zd.nil ?_ | refine zP rfl rfl rfl rfl ?_))
   refine FW.cond rfl (fun h => ?_) (fun h => ?_)
   ·have hlt : i < l.length := by simpa using h
    clear h
    have hst : UH h0 l (i + 1) = zdm (UH h0 l i) (IntKind.wrap .u64 (nth l i)) := by
     unfold UH
     rw [List.take_succ_eq_append_getElem hlt, List.foldl_append, nth_eq hlt]; rfl
    have hm3 := YE (UH h0 l i) (IntKind.wrap .u64 (nth l i))
    obtain ⟨z, hz⟩ : ∃ z, UH h0 l (i + 1) = z := ⟨_, rfl⟩
    rw [← hst, hz] at hm3
    (repeat (first | refine FW.seq ?_ | refine FW.region ?_ | refine FW.block ?_ | refine FW.skip ?_ | refine zd.nil ?_ | refine zc rfl rfl rfl ?_ | refine zb rfl rfl rfl ?_ | refine zC rfl rfl rfl (by first | (simp; omega) | (simp; done)) (by first | exact zf (by omega) | rfl) rfl rfl rfl rfl ?_ | refine zG rfl rfl rfl rfl rfl (by first | (simp; omega) | (simp; done)) (by first | exact zf (by omega) | rfl) rfl rfl rfl rfl ?_ | refine zy rfl rfl rfl rfl rfl rfl (by first | (simp; omega) | (simp; done)) rfl rfl ?_))
    refine ze6 rfl rfl rfl rfl rfl ?_
    skip
    refine zW hm3 (by repeat (first | exact zu.nil | refine zu.cons (by exact yU.plain rfl rfl) ?_)) rfl rfl ?_
    (repeat (first | refine FW.region ?_ | refine zd.nil ?_ | refine yr rfl rfl rfl rfl rfl rfl rfl rfl rfl ?_ | refine zb rfl rfl rfl ?_ | refine zB rfl rfl (by omega) rfl rfl ?_))
    refine ⟨i + 1, by omega, by omega, ?_⟩
    rw [hz]
    exact (FLe.cv [⟨100, some 100, 0, ⟨0, .own, 41, 1, [[.int .u64 z]]⟩⟩] (by repeat (first | exact .nil | refine .old rfl (by decide) rfl ?_)) (by repeat (first | exact .nil | refine .cons (.plain rfl rfl rfl) ?_ | refine .cons (.ptr rfl (.head _) rfl) ?_)))
   ·obtain rfl : i = l.length := by simp at h; omega
    have hm4 := YE (UH h0 l l.length) 0
    rw [hR2] at hm4
    (repeat (first | refine FW.seq ?_ | refine FW.region ?_ | refine FW.exit ?_ | refine zG rfl rfl rfl rfl rfl (by simp; done) rfl rfl rfl rfl rfl ?_))
    refine zW hm4 (by repeat (first | exact zu.nil | refine zu.cons (by exact yU.plain rfl rfl) ?_)) rfl rfl ?_
    (repeat (first | refine zd.nil ?_ | refine zc rfl rfl rfl ?_))
    refine FW.ret ?_
    intro a w β hF
    exact ⟨.inl rfl, J', _, β, hM, ⟨_, .cons (.tmp 4 rfl rfl) .nil, rfl⟩, hF⟩
 ·exact (FLe.cv [⟨100, some 5, 0 + 1, ⟨0, .own, 41, 1, [[.int .u64 0]]⟩⟩] (by repeat (first | exact .nil | refine .old rfl (by decide) rfl ?_)) (by repeat (first | exact .nil | refine .cons (.plain rfl rfl rfl) ?_ | refine .cons (.ptr rfl (.head _) rfl) ?_)))
end Go.Proofs.Ythjplkjpehdpfaa
