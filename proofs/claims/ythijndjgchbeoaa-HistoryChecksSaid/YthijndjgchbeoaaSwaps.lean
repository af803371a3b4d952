/-
  simproofref20.Swaps: a history of reads and swaps, made from numbers.
-/
import Derived.Test.YthijndjgchbeoaaRegs
namespace Go.Proofs.Ythijndjgchbeoaa
set_option linter.unusedVariables false
open Go.RowKit
attribute [local go_sem ↓] Go.wp_at_zero Go.wp_at_succ

def swCall (ev : List EvV) (i : Nat) (e : EvV) (s : GenSt) : GenSt :=
  if 0 < e.n % 3 then ⟨s.out ++ [⟨e.p, 2, 1 + e.n / 2 % 2, (s.ws.length : Int) + 1, 0, i, ev.length, false⟩], s.ws ++ [1 + e.n / 2 % 2], s.opn.set e.p.toNat s.out.length, s.lat⟩
  else ⟨s.out ++ [⟨e.p, 0, 1 + e.n / 2 % 2, 0, 0, i, ev.length, false⟩], s.ws, s.opn.set e.p.toNat s.out.length, s.lat⟩
def swRet (fresh : Bool) (i : Nat) (e : EvV) (s : GenSt) : GenSt :=
  { s with out := s.out.set (nth s.opn e.p.toNat).toNat { nth s.out (nth s.opn e.p.toNat).toNat with done := true, ret := i, res := chosenV s.ws (nth s.out (nth s.opn e.p.toNat).toNat).key e.n (nth s.lat (nth s.out (nth s.opn e.p.toNat).toNat).key.toNat) fresh }
           lat := if (nth s.out (nth s.opn e.p.toNat).toNat).k = 2 then s.lat.set (nth s.out (nth s.opn e.p.toNat).toNat).key.toNat (nth s.out (nth s.opn e.p.toNat).toNat).arg else s.lat }
def swStep (ev : List EvV) (fresh : Bool) (i : Nat) (s : GenSt) : GenSt :=
  if (nth ev i).inv then swCall ev i (nth ev i) s else swRet fresh i (nth ev i) s
def swTo (ev : List EvV) (fresh : Bool) (k : Nat) : GenSt := loopN (swStep ev fresh) genInit k
def swaps (l : List Int) (most : Int) : List OpV := (swTo (events l most) (freshOf l) (events l most).length).out

theorem swTo_inv {ev : List EvV} (fresh : Bool) (hg : EvGood ev) (hl : ev.length ≤ 40) : ∀ k, k ≤ ev.length → GenInv ev k (swTo ev fresh k)
  | 0, _ => ⟨GenOk.zero ev, fun _ h => by simp [swTo, loopN, genInit] at h, rfl, fun x h => by simp [swTo, loopN, genInit] at h; omega, Nat.zero_le _, fun _ h => by simp [swTo, loopN, genInit] at h⟩
  | k + 1, hk => by
    have ih := swTo_inv fresh hg hl k (by omega)
    have hs : swTo ev fresh (k + 1) = swStep ev fresh k (swTo ev fresh k) := rfl
    rw [hs]
    generalize swTo ev fresh k = s at ih
    obtain ⟨g1, g2, g3⟩ := hg k (by omega)
    obtain ⟨ok, sm, lat, latx, ws, wsx⟩ := ih
    obtain ⟨p, hp⟩ : ∃ p : Nat, (nth ev k).p = p := ⟨(nth ev k).p.toNat, by omega⟩
    unfold swStep
    cases hi : (nth ev k).inv with
    | true =>
      simp only [if_true]
      unfold swCall
      have hpn : (nth ev k).p.toNat = p := by omega
      rw [hpn]
      split
      · refine ⟨ok.add hg (by omega) hi rfl rfl rfl rfl rfl hp, fun o ho => ?_, lat, latx, by simp; omega, fun x hx => ?_⟩
        · rcases List.mem_append.1 ho with h | h
          · exact sm o h
          · simp only [List.mem_singleton] at h; subst h; unfold OpSm; dsimp only; omega
        · rcases List.mem_append.1 hx with h | h
          · exact wsx x h
          · simp only [List.mem_singleton] at h; omega
      · refine ⟨ok.add hg (by omega) hi rfl rfl rfl rfl rfl hp, fun o ho => ?_, lat, latx, by dsimp only; omega, wsx⟩
        rcases List.mem_append.1 ho with h | h
        · exact sm o h
        · simp only [List.mem_singleton] at h; subst h; unfold OpSm; dsimp only; omega
    | false =>
      simp only [Bool.false_eq_true, if_false]
      unfold swRet
      have hpn : (nth ev k).p.toNat = p := by omega
      rw [hpn]
      obtain ⟨j, j1, j2, j3, j4⟩ := ok.at_ hg (by omega) hi hp
      have hjn : (nth s.opn p).toNat = j := by omega
      rw [hjn]
      have hj := sm _ (nth_mem j2)
      refine ⟨ok.put (by omega) hi j2 (by omega) j4 rfl rfl rfl rfl, fun o ho => ?_, ?_, fun x hx => ?_, by dsimp only; omega, wsx⟩
      · rcases mem_set_or ho with h | h
        · exact sm o h
        · subst h
          unfold OpSm at hj ⊢
          dsimp only
          refine ⟨hj.1, hj.2.1, hj.2.2.1, ?_⟩
          have hlx := latx _ (nth_mem (l := s.lat) (i := (nth s.out j).key.toNat) (by omega))
          have := chosenV_in s.ws (nth s.out j).key (nth ev k).n (nth s.lat (nth s.out j).key.toNat) fresh (by omega)
          omega
      · dsimp only; split
        · simpa using lat
        · exact lat
      · dsimp only at hx
        split at hx
        · rcases mem_set_or hx with h | h
          · exact latx x h
          · rw [h]; exact hj.2.2.1
        · exact latx x hx
end Go.Proofs.Ythijndjgchbeoaa
