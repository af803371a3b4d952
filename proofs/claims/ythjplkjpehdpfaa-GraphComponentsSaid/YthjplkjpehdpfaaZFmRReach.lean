/-
  The reference's Reach.
-/
import Derived.Test.YthjplkjpehdpfaaZFmReach
namespace Go.Proofs.Ythjplkjpehdpfaa
set_option linter.unusedVariables false
open Go.RowKit

structure MI (n : Nat) (E : List (Nat × Nat)) (fr : List Int) (s : List Bool) : Prop where
 len : s.length = n
 snd : ∀ v, nth s v = true → Rch n E fr v
theorem MI.set {n : Nat} {E : List (Nat × Nat)} {fr : List Int} {s : List Bool} (h : MI n E fr s) {v : Nat} (hv : v < n) (hr : Rch n E fr v) : MI n E fr (s.set v true) := by
 refine ⟨by rw [List.length_set]; exact h.len, fun u hu => ?_⟩
 rw [ZB (by rw [h.len]; exact hv)] at hu
 split at hu
 ·rename_i e; subst e; exact hr
 ·exact h.snd u hu
theorem XS {s s' : List Bool} {n : Nat} (h : ∀ v, v < n → (nth s v = true ↔ nth s' v = true)) : ∀ k, k ≤ n → ZU s k = ZU s' k
 | 0, _ => rfl
 | k + 1, hk => by
  rw [YL, YL, XS h k (by omega)]
  congr 1
  by_cases e : nth s k = true
  ·rw [if_pos e, if_pos ((h k (by omega)).1 e)]
  ·rw [if_neg e, if_neg fun q => e ((h k (by omega)).2 q)]
theorem zbN {n : Nat} {E : List (Nat × Nat)} (h : InN n E) {fr : List Int} {s : List Bool} (hs : MI n E fr s) (hm : ∀ x ∈ fr, 0 ≤ x → x < n → nth s x.toNat = true) (hc : ∀ e ∈ E, nth s e.1 = true → nth s e.2 = true) : ZU s n = yD n E fr := by
 unfold yD
 refine XS (fun v _ => ?_) n (Nat.le_refl n)
 rw [zby h]
 refine ⟨hs.snd v, fun hr => ?_⟩
 induction hr with
 | start hv hmem =>
  have := hm _ hmem (by omega) (by omega)
  rwa [Int.toNat_natCast] at this
 | step hu hmem ih =>
  obtain ⟨e, he, h1, h2⟩ := yn.1 hmem
  have := hc e he (by rw [h1]; exact ih (Rch.lt h hu))
  rw [show e.2 = _ by exact Int.ofNat.inj h2] at this
  exact this
set_option maxHeartbeats 4000000 in
theorem zaP (n : Nat) (E : List (Nat × Nat)) (fr : List Int) (hn : n ≤ 1000) (hE : E.length ≤ 100000) (hin : InN n E) (hf : fr.length ≤ 100000) : yf Try.prog 29 [.int .i64 n, .list 2 (E.map edf), .list 1 (fr.map zq)] .sh (.list 1 ((yD n E fr).map zq)) := by
 refine yf.of_body (c := (xX Try.prog zA zt 87)) ⟨Try.func29, rfl, Try.ntmps29, by kernel_rfl⟩ (by simp [FV.hand]) (by exact Nat.le_of_ble_eq_true rfl) rfl ?_
 change FW _ _ _ ⟨[(0, .int .i64 n), (1, .list 2 (E.map edf)), (2, .list 1 (fr.map zq))], []⟩
 (repeat (first | refine FW.seq ?_ | refine FW.region ?_ | refine FW.block ?_ | refine zd.nil ?_ | refine zc rfl rfl rfl ?_ | refine zb rfl rfl rfl ?_ | refine Wd rfl (by first | rfl | exact (Int.toNat_of_nonneg (by omega)).symm) rfl (by first | rfl | exact (Int.toNat_of_nonneg (by omega)).symm) rfl rfl rfl rfl (by first | omega | (simp; omega) | (simp; done)) (by first | omega | (simp; omega) | (simp; done)) rfl rfl rfl ?_))
 rw [show List.replicate n [FV.bool false] = (List.replicate n false).map zY by rw [List.map_replicate]; rfl]
 refine FW.loop (fun x : Nat × List Bool => ⟨[(0, .int .i64 n), (1, .list 2 (E.map edf)), (2, .list 1 (fr.map zq)), (7, .own 100 0 0 n), (8, .int .i64 x.1)], [(100, ⟨0, .own, 4, 1, x.2.map zY⟩)]⟩) (fun x => x.1 ≤ fr.length ∧ MI n E fr x.2 ∧ ∀ y ∈ fr.take x.1, 0 ≤ y → y < n → nth x.2 y.toNat = true) (fun x => fr.length - x.1) (0, List.replicate n false) ⟨Nat.zero_le _, ⟨by simp, fun v hv => ?_⟩, fun y hy => by simp at hy⟩ ?_ ?_
 ·exfalso
  rcases Nat.lt_or_ge v n with h | h
  ·rw [nth_eq (by simpa using h)] at hv; simp at hv
  ·unfold nth at hv; rw [List.getD_eq_getElem?_getD, List.getElem?_eq_none (by simpa using h)] at hv; cases hv
 ·obtain ⟨Z, hZ⟩ : ∃ Z, (List.replicate n false).map zY = Z := ⟨_, rfl⟩
  dsimp only
  rw [hZ]
  exact (FLe.conv [⟨100, some 14, 0 + 1, ⟨0, .own, 4, 1, Z⟩⟩] (by simp) (by simp) rfl (by repeat (first | exact .nil | refine .low rfl ?_ | refine .same rfl ?_ | refine .bump (Nat.lt_succ_self _) ?_)) (by repeat (first | exact .nil | refine .old rfl (by decide) (by first | rfl | (simp; done) | (congr 1; omega) | (simp; omega) | (simp [List.take_of_length_le]; done) | (refine congrArg (FV.int .i64) ?_; omega)) ?_)) (by repeat (first | exact .nil | refine .cons (.plain rfl rfl (by first | rfl | (simp; done) | (congr 1; omega) | (simp; omega) | (simp [List.take_of_length_le]; done) | (refine congrArg (FV.int .i64) ?_; omega))) ?_ | refine .cons (.own rfl (.head _) rfl (by first | rfl | (simp; done) | (congr 1; omega) | (simp; omega) | (simp [List.take_of_length_le]; done) | (refine congrArg (FV.int .i64) ?_; omega))) ?_)))
 rintro ⟨i, s⟩ ⟨hi, hM, hm⟩
 dsimp only at hi hM hm ⊢
 have hsl := hM.len
 (repeat (first | refine FW.seq ?_ | refine FW.region ?_ | refine zd.nil ?_ | refine zb rfl rfl rfl ?_ | refine zE rfl rfl (by first | exact List.length_map _ | exact (List.length_map _).symm | exact List.length_replicate | rfl | (simp; done) | omega | (simp; omega)) rfl rfl ?_ | refine zK rfl rfl rfl rfl ?_))
 refine FW.cond rfl (fun h => ?_) (fun h => ?_)
 ·have hlt : i < fr.length := by simpa using h
  clear h
  have hmem := zF hlt
  have htk : fr.take (i + 1) = fr.take i ++ [nth fr i] := by rw [List.take_succ_eq_append_getElem hlt, nth_eq hlt]
  obtain ⟨x, hx⟩ : ∃ x, nth fr i = x := ⟨_, rfl⟩
  rw [hx] at hmem htk
  (repeat (first | refine FW.seq ?_ | refine FW.region ?_ | refine FW.block ?_ | refine FW.skip ?_ | refine zb rfl rfl rfl ?_ | refine zu rfl rfl (by first | rfl | exact (Int.toNat_of_nonneg (by omega)).symm) rfl rfl rfl (by first | omega | (simp; omega) | (simp; done)) rfl rfl ?_ | refine zD rfl rfl rfl (by first | omega | (simp; omega) | (simp; done)) (by first | exact zf (by omega) | rfl) rfl rfl rfl rfl ?_ | refine US rfl rfl rfl rfl ?_))
  rw [hx]
  skip
  refine yK (fun h1 => ?_) (fun h1 => ?_)
  ·(repeat (first | refine zd.nil ?_ | refine zR rfl rfl rfl rfl ?_ | refine zb rfl rfl ⟨_, _, rfl, rfl, rfl⟩ ?_ | refine zu rfl rfl (by first | rfl | exact (Int.toNat_of_nonneg (by omega)).symm) rfl rfl rfl (by first | omega | (simp; omega) | (simp; done)) rfl ⟨_, _, rfl, rfl, rfl⟩ ?_ | refine zD rfl rfl rfl (by first | omega | (simp; omega) | (simp; done)) (by first | exact zf (by omega) | rfl) rfl rfl rfl ⟨_, _, rfl, rfl, rfl⟩ ?_ | refine zK rfl rfl rfl ⟨_, _, rfl, rfl, rfl⟩ ?_))
   rw [hx]
   skip
   refine FW.cond rfl (fun h2 => ?_) (fun h2 => ?_)
   ·obtain ⟨v, rfl⟩ : ∃ v : Nat, x = v := ⟨x.toNat, by simp at h1; omega⟩
    have hvn : v < n := by simp at h2; omega
    (repeat (first | refine FW.region ?_ | refine zd.nil ?_ | refine zc rfl rfl rfl ?_ | refine zb rfl rfl rfl ?_ | refine zu rfl rfl (by first | rfl | exact (Int.toNat_of_nonneg (by omega)).symm) rfl rfl rfl (by first | omega | (simp; omega) | (simp; done)) rfl rfl ?_ | refine zB rfl rfl (by first | rfl | exact (Int.toNat_of_nonneg (by omega)).symm) rfl rfl rfl (by decide) rfl (by first | omega | (simp; omega) | (simp; done)) rfl rfl ?_ | refine zD rfl rfl rfl (by first | omega | (simp; omega) | (simp; done)) (by first | exact zf (by omega) | rfl) rfl rfl rfl rfl ?_ | refine yL rfl rfl rfl rfl rfl rfl (by first | omega | (simp; omega) | (simp; done)) (by first | exact zf (by omega) | rfl) rfl rfl rfl ?_ | refine zw rfl rfl (by omega) rfl rfl ?_))
    rw [hx]
    skip
    refine ⟨(i + 1, s.set v true), ⟨by show i + 1 ≤ _; omega, hM.set hvn (.start hvn hmem), fun y hy h0 hn => ?_⟩, by show fr.length - (i + 1) < fr.length - i; omega, ?_⟩
    ·dsimp only at hy ⊢
     rw [htk, List.mem_append] at hy
     rw [ZB (by omega)]
     split
     ·rfl
     ·rcases hy with hy | hy
      ·exact hm y hy h0 hn
      ·rename_i hne
       rw [List.mem_singleton.1 hy] at hne
       exact absurd (Int.toNat_natCast v) hne
    ·dsimp only
     first | rw [Int.toNat_natCast] | skip
     rw [show (zY (nth s v)).set 0 (.bool true) = zY true from rfl, ← List.map_set]
     obtain ⟨Y, hY⟩ : ∃ Y, (s.set v true).map zY = Y := ⟨_, rfl⟩
     rw [hY]
     exact (FLe.conv [⟨100, some 100, 0, ⟨0, .own, 4, 1, Y⟩⟩] (by simp) (by simp) rfl (by repeat (first | exact .nil | refine .low rfl ?_ | refine .same rfl ?_ | refine .bump (Nat.lt_succ_self _) ?_)) (by repeat (first | exact .nil | refine .old rfl (by decide) (by first | rfl | (simp; done) | (congr 1; omega) | (simp; omega) | (simp [List.take_of_length_le]; done) | (refine congrArg (FV.int .i64) ?_; omega)) ?_)) (by repeat (first | exact .nil | refine .cons (.plain rfl rfl (by first | rfl | (simp; done) | (congr 1; omega) | (simp; omega) | (simp [List.take_of_length_le]; done) | (refine congrArg (FV.int .i64) ?_; omega))) ?_ | refine .cons (.own rfl (.head _) rfl (by first | rfl | (simp; done) | (congr 1; omega) | (simp; omega) | (simp [List.take_of_length_le]; done) | (refine congrArg (FV.int .i64) ?_; omega))) ?_)))
   ·(repeat (first | refine FW.region ?_ | refine FW.skip ?_ | refine zd.nil ?_ | refine zc rfl rfl rfl ?_ | refine zb rfl rfl rfl ?_ | refine zw rfl rfl (by omega) rfl rfl ?_))
    refine ⟨(i + 1, s), ⟨by show i + 1 ≤ _; omega, hM, fun y hy h0 hn => ?_⟩, by show fr.length - (i + 1) < fr.length - i; omega, ?_⟩
    ·dsimp only at hy ⊢
     rw [htk, List.mem_append] at hy
     rcases hy with hy | hy
     ·exact hm y hy h0 hn
     ·rw [List.mem_singleton.1 hy] at hn; simp at h2; omega
    ·exact (FLe.conv [⟨100, some 100, 0, ⟨0, .own, 4, 1, s.map zY⟩⟩] (by simp) (by simp) rfl (by repeat (first | exact .nil | refine .low rfl ?_ | refine .same rfl ?_ | refine .bump (Nat.lt_succ_self _) ?_)) (by repeat (first | exact .nil | refine .old rfl (by decide) (by first | rfl | (simp; done) | (congr 1; omega) | (simp; omega) | (simp [List.take_of_length_le]; done) | (refine congrArg (FV.int .i64) ?_; omega)) ?_)) (by repeat (first | exact .nil | refine .cons (.plain rfl rfl (by first | rfl | (simp; done) | (congr 1; omega) | (simp; omega) | (simp [List.take_of_length_le]; done) | (refine congrArg (FV.int .i64) ?_; omega))) ?_ | refine .cons (.own rfl (.head _) rfl (by first | rfl | (simp; done) | (congr 1; omega) | (simp; omega) | (simp [List.take_of_length_le]; done) | (refine congrArg (FV.int .i64) ?_; omega))) ?_)))
  ·(repeat (first | refine FW.region ?_ | refine FW.skip ?_ | refine FW.condF rfl ?_ | refine zd.nil ?_ | refine zc rfl rfl rfl ?_ | refine zb rfl rfl rfl ?_ | refine zZ rfl rfl rfl rfl ?_ | refine zw rfl rfl (by omega) rfl rfl ?_ | refine yC rfl rfl ⟨_, _, rfl, rfl, rfl⟩ ?_))
   refine ⟨(i + 1, s), ⟨by show i + 1 ≤ _; omega, hM, fun y hy h0 hn => ?_⟩, by show fr.length - (i + 1) < fr.length - i; omega, ?_⟩
   ·dsimp only at hy ⊢
    rw [htk, List.mem_append] at hy
    rcases hy with hy | hy
    ·exact hm y hy h0 hn
    ·rw [List.mem_singleton.1 hy] at h0; simp at h1; omega
   ·exact (FLe.conv [⟨100, some 100, 0, ⟨0, .own, 4, 1, s.map zY⟩⟩] (by simp) (by simp) rfl (by repeat (first | exact .nil | refine .low rfl ?_ | refine .same rfl ?_ | refine .bump (Nat.lt_succ_self _) ?_)) (by repeat (first | exact .nil | refine .old rfl (by decide) (by first | rfl | (simp; done) | (congr 1; omega) | (simp; omega) | (simp [List.take_of_length_le]; done) | (refine congrArg (FV.int .i64) ?_; omega)) ?_)) (by repeat (first | exact .nil | refine .cons (.plain rfl rfl (by first | rfl | (simp; done) | (congr 1; omega) | (simp; omega) | (simp [List.take_of_length_le]; done) | (refine congrArg (FV.int .i64) ?_; omega))) ?_ | refine .cons (.own rfl (.head _) rfl (by first | rfl | (simp; done) | (congr 1; omega) | (simp; omega) | (simp [List.take_of_length_le]; done) | (refine congrArg (FV.int .i64) ?_; omega))) ?_)))
 ·have hie : i = fr.length := by simp at h; omega
  subst hie
  rw [List.take_length] at hm
  clear h hi
  (repeat (first | refine FW.seq ?_ | refine FW.region ?_ | refine FW.block ?_ | refine FW.exit ?_ | refine zd.nil ?_ | refine zc rfl rfl rfl ?_))
  refine FW.loop (fun x : List Bool × Bool => ⟨[(0, .int .i64 n), (1, .list 2 (E.map edf)), (7, .own 100 0 0 n), (9, .bool x.2)], [(100, ⟨0, .own, 4, 1, x.1.map zY⟩)]⟩) (fun x => MI n E fr x.1 ∧ (∀ y ∈ fr, 0 ≤ y → y < n → nth x.1 y.toNat = true) ∧ (x.2 = false → ∀ e ∈ E, nth x.1 e.1 = true → nth x.1 e.2 = true)) (fun x => 2 * unseen x.1 + if x.2 = true then 1 else 0) (s, true) ⟨hM, hm, fun q => by cases q⟩ ?_ ?_
  ·exact (FLe.conv [⟨100, some 100, 0, ⟨0, .own, 4, 1, s.map zY⟩⟩] (by simp) (by simp) rfl (by repeat (first | exact .nil | refine .low rfl ?_ | refine .same rfl ?_ | refine .bump (Nat.lt_succ_self _) ?_)) (by repeat (first | exact .nil | refine .old rfl (by decide) (by first | rfl | (simp; done) | (congr 1; omega) | (simp; omega) | (simp [List.take_of_length_le]; done) | (refine congrArg (FV.int .i64) ?_; omega)) ?_)) (by repeat (first | exact .nil | refine .cons (.plain rfl rfl (by first | rfl | (simp; done) | (congr 1; omega) | (simp; omega) | (simp [List.take_of_length_le]; done) | (refine congrArg (FV.int .i64) ?_; omega))) ?_ | refine .cons (.own rfl (.head _) rfl (by first | rfl | (simp; done) | (congr 1; omega) | (simp; omega) | (simp [List.take_of_length_le]; done) | (refine congrArg (FV.int .i64) ?_; omega))) ?_)))
  clear hm hM hsl s
  rintro ⟨s, b⟩ ⟨hM, hm, hcl⟩
  dsimp only at hM hm hcl ⊢
  have hsl := hM.len
  (repeat (first | refine FW.seq ?_ | refine FW.region ?_ | refine zd.nil ?_ | refine zb rfl rfl rfl ?_))
  refine FW.cond rfl (fun h => ?_) (fun h => ?_)
  ·subst h
   clear hcl
   (repeat (first | refine FW.seq ?_ | refine FW.region ?_ | refine FW.block ?_ | refine FW.skip ?_ | refine zd.nil ?_ | refine zc rfl rfl rfl ?_))
   refine FW.loop (fun x : Nat × List Bool × Bool => ⟨[(0, .int .i64 n), (1, .list 2 (E.map edf)), (7, .own 100 0 0 n), (9, .bool x.2.2), (10, .int .i64 x.1)], [(100, ⟨0, .own, 4, 1, x.2.1.map zY⟩)]⟩) (fun x => x.1 ≤ E.length ∧ MI n E fr x.2.1 ∧ Ext s x.2.1 ∧ (x.2.2 = false → x.2.1 = s ∧ ∀ e ∈ E.take x.1, nth s e.1 = true → nth s e.2 = true) ∧ (x.2.2 = true → unseen x.2.1 < unseen s)) (fun x => E.length - x.1) (0, s, false) ⟨Nat.zero_le _, hM, Ext.refl s, fun _ => ⟨rfl, fun e he => by simp at he⟩, fun q => by cases q⟩ ?_ ?_
   ·exact (FLe.conv [⟨100, some 100, 0, ⟨0, .own, 4, 1, s.map zY⟩⟩] (by simp) (by simp) rfl (by repeat (first | exact .nil | refine .low rfl ?_ | refine .same rfl ?_ | refine .bump (Nat.lt_succ_self _) ?_)) (by repeat (first | exact .nil | refine .old rfl (by decide) (by first | rfl | (simp; done) | (congr 1; omega) | (simp; omega) | (simp [List.take_of_length_le]; done) | (refine congrArg (FV.int .i64) ?_; omega)) ?_)) (by repeat (first | exact .nil | refine .cons (.plain rfl rfl (by first | rfl | (simp; done) | (congr 1; omega) | (simp; omega) | (simp [List.take_of_length_le]; done) | (refine congrArg (FV.int .i64) ?_; omega))) ?_ | refine .cons (.own rfl (.head _) rfl (by first | rfl | (simp; done) | (congr 1; omega) | (simp; omega) | (simp [List.take_of_length_le]; done) | (refine congrArg (FV.int .i64) ?_; omega))) ?_)))
   rintro ⟨i, z, b⟩ ⟨hi, hMz, hext, hf0, hf1⟩
   dsimp only at hi hMz hext hf0 hf1 ⊢
   have hzl := hMz.len
   (repeat (first | refine FW.seq ?_ | refine FW.region ?_ | refine zd.nil ?_ | refine zb rfl rfl rfl ?_ | refine zE rfl rfl (by first | exact List.length_map _ | exact (List.length_map _).symm | exact List.length_replicate | rfl | (simp; done) | omega | (simp; omega)) rfl rfl ?_ | refine zK rfl rfl rfl rfl ?_))
   refine FW.cond rfl (fun h => ?_) (fun h => ?_)
   ·have hlt : i < E.length := by simpa using h
    clear h
    have hie := hin _ (zF hlt)
    have hme := zF hlt
    have htk : E.take (i + 1) = E.take i ++ [nth E i] := by rw [List.take_succ_eq_append_getElem hlt, nth_eq hlt]
    obtain ⟨⟨u, v⟩, he⟩ : ∃ e, nth E i = e := ⟨_, rfl⟩
    rw [he] at hie hme htk
    have hun : u < n := hie.1
    have hvn : v < n := hie.2
    have keep : (nth z u = true → nth z v = true) → b = false → z = s ∧ ∀ e ∈ E.take (i + 1), nth s e.1 = true → nth s e.2 = true := fun hk hb => by
     obtain ⟨q1, q2⟩ := hf0 hb
     refine ⟨q1, fun e hme => ?_⟩
     rw [htk, List.mem_append] at hme
     rcases hme with hme | hme
     ·exact q2 e hme
     ·rw [List.mem_singleton.1 hme, ← q1]; exact hk
    (repeat (first | refine FW.seq ?_ | refine FW.region ?_ | refine FW.block ?_ | refine FW.skip ?_ | refine zb rfl rfl rfl ?_ | refine zu rfl rfl (by first | rfl | exact (Int.toNat_of_nonneg (by omega)).symm) rfl rfl rfl (by first | omega | (simp; omega) | (simp; done)) rfl rfl ?_ | refine YQ rfl rfl (by first | rfl | exact (Int.toNat_of_nonneg (by omega)).symm) rfl rfl rfl (by first | omega | (simp; omega) | (simp; done)) rfl rfl ?_ | refine zD rfl rfl rfl (by first | omega | (simp; omega) | (simp; done)) (by first | exact zf (by omega) | rfl) rfl rfl rfl rfl ?_))
    rw [he]
    (repeat (first | refine zb rfl rfl rfl ?_ | refine zB rfl rfl (by first | rfl | exact (Int.toNat_of_nonneg (by omega)).symm) rfl rfl rfl (by decide) rfl (by first | omega | (simp; omega) | (simp; done)) rfl rfl ?_ | refine zO rfl rfl rfl rfl rfl (by first | omega | (simp; omega) | (simp; done)) (by first | exact zf (by omega) | rfl) rfl rfl rfl rfl ?_))
    refine yK (fun h1 => ?_) (fun h1 => ?_)
    ·(repeat (first | refine zb rfl rfl ⟨_, _, rfl, rfl, rfl⟩ ?_ | refine zu rfl rfl (by first | rfl | exact (Int.toNat_of_nonneg (by omega)).symm) rfl rfl rfl (by first | omega | (simp; omega) | (simp; done)) rfl ⟨_, _, rfl, rfl, rfl⟩ ?_ | refine YQ rfl rfl (by first | rfl | exact (Int.toNat_of_nonneg (by omega)).symm) rfl rfl rfl (by first | omega | (simp; omega) | (simp; done)) rfl ⟨_, _, rfl, rfl, rfl⟩ ?_ | refine zD rfl rfl rfl (by first | omega | (simp; omega) | (simp; done)) (by first | exact zf (by omega) | rfl) rfl rfl rfl ⟨_, _, rfl, rfl, rfl⟩ ?_))
     rw [he]
     (repeat (first | refine zd.nil ?_ | refine zR rfl rfl rfl rfl ?_ | refine zB rfl rfl (by first | rfl | exact (Int.toNat_of_nonneg (by omega)).symm) rfl rfl rfl (by decide) rfl (by first | omega | (simp; omega) | (simp; done)) rfl ⟨_, _, rfl, rfl, rfl⟩ ?_ | refine zO rfl rfl rfl rfl rfl (by first | omega | (simp; omega) | (simp; done)) (by first | exact zf (by omega) | rfl) rfl rfl rfl ⟨_, _, rfl, rfl, rfl⟩ ?_ | refine UU rfl rfl ⟨_, _, rfl, rfl, rfl⟩ ?_))
     refine FW.cond rfl (fun h2 => ?_) (fun h2 => ?_)
     ·have h2' : nth z v = false := by simpa using h2
      have hus := Vq (show v < z.length by omega) h2'
      (repeat (first | refine FW.seq ?_ | refine FW.region ?_ | refine zb rfl rfl rfl ?_ | refine zu rfl rfl (by first | rfl | exact (Int.toNat_of_nonneg (by omega)).symm) rfl rfl rfl (by first | omega | (simp; omega) | (simp; done)) rfl rfl ?_ | refine YQ rfl rfl (by first | rfl | exact (Int.toNat_of_nonneg (by omega)).symm) rfl rfl rfl (by first | omega | (simp; omega) | (simp; done)) rfl rfl ?_ | refine zD rfl rfl rfl (by first | omega | (simp; omega) | (simp; done)) (by first | exact zf (by omega) | rfl) rfl rfl rfl rfl ?_))
      rw [he]
      (repeat (first | refine FW.region ?_ | refine zd.nil ?_ | refine zc rfl rfl rfl ?_ | refine zb rfl rfl rfl ?_ | refine zB rfl rfl (by first | rfl | exact (Int.toNat_of_nonneg (by omega)).symm) rfl rfl rfl (by decide) rfl (by first | omega | (simp; omega) | (simp; done)) rfl rfl ?_ | refine yL rfl rfl rfl rfl rfl rfl (by first | omega | (simp; omega) | (simp; done)) (by first | exact zf (by omega) | rfl) rfl rfl rfl ?_ | refine zw rfl rfl (by omega) rfl rfl ?_))
      rw [show (zY (nth z v)).set 0 (.bool true) = zY true from rfl, ← List.map_set]
      refine ⟨(i + 1, z.set v true, true), ⟨by show i + 1 ≤ _; omega, hMz.set hvn (.step (hMz.snd u h1) (yn.2 ⟨_, hme, rfl, rfl⟩)), hext.trans (Ext.set (by omega)), (fun q => by cases q), fun _ => by have := hext.unseen; show unseen (z.set v true) < unseen s; omega⟩, by show E.length - (i + 1) < E.length - i; omega, ?_⟩
      obtain ⟨Y, hY⟩ : ∃ Y, (z.set v true).map zY = Y := ⟨_, rfl⟩
      dsimp only
      rw [hY]
      exact (FLe.conv [⟨100, some 100, 0, ⟨0, .own, 4, 1, Y⟩⟩] (by simp) (by simp) rfl (by repeat (first | exact .nil | refine .low rfl ?_ | refine .same rfl ?_ | refine .bump (Nat.lt_succ_self _) ?_)) (by repeat (first | exact .nil | refine .old rfl (by decide) (by first | rfl | (simp; done) | (congr 1; omega) | (simp; omega) | (simp [List.take_of_length_le]; done) | (refine congrArg (FV.int .i64) ?_; omega)) ?_)) (by repeat (first | exact .nil | refine .cons (.plain rfl rfl (by first | rfl | (simp; done) | (congr 1; omega) | (simp; omega) | (simp [List.take_of_length_le]; done) | (refine congrArg (FV.int .i64) ?_; omega))) ?_ | refine .cons (.own rfl (.head _) rfl (by first | rfl | (simp; done) | (congr 1; omega) | (simp; omega) | (simp [List.take_of_length_le]; done) | (refine congrArg (FV.int .i64) ?_; omega))) ?_)))
     ·have h2' : nth z v = true := by simpa using h2
      (repeat (first | refine FW.region ?_ | refine FW.skip ?_ | refine zd.nil ?_ | refine zc rfl rfl rfl ?_ | refine zb rfl rfl rfl ?_ | refine zw rfl rfl (by omega) rfl rfl ?_))
      refine ⟨(i + 1, z, b), ⟨by show i + 1 ≤ _; omega, hMz, hext, keep (fun _ => h2'), hf1⟩, by show E.length - (i + 1) < E.length - i; omega, ?_⟩
      exact (FLe.conv [⟨100, some 100, 0, ⟨0, .own, 4, 1, z.map zY⟩⟩] (by simp) (by simp) rfl (by repeat (first | exact .nil | refine .low rfl ?_ | refine .same rfl ?_ | refine .bump (Nat.lt_succ_self _) ?_)) (by repeat (first | exact .nil | refine .old rfl (by decide) (by first | rfl | (simp; done) | (congr 1; omega) | (simp; omega) | (simp [List.take_of_length_le]; done) | (refine congrArg (FV.int .i64) ?_; omega)) ?_)) (by repeat (first | exact .nil | refine .cons (.plain rfl rfl (by first | rfl | (simp; done) | (congr 1; omega) | (simp; omega) | (simp [List.take_of_length_le]; done) | (refine congrArg (FV.int .i64) ?_; omega))) ?_ | refine .cons (.own rfl (.head _) rfl (by first | rfl | (simp; done) | (congr 1; omega) | (simp; omega) | (simp [List.take_of_length_le]; done) | (refine congrArg (FV.int .i64) ?_; omega))) ?_)))
    ·(repeat (first | refine FW.region ?_ | refine FW.skip ?_ | refine FW.condF rfl ?_ | refine zd.nil ?_ | refine zc rfl rfl rfl ?_ | refine zb rfl rfl rfl ?_ | refine zZ rfl rfl rfl rfl ?_ | refine zw rfl rfl (by omega) rfl rfl ?_ | refine yC rfl rfl ⟨_, _, rfl, rfl, rfl⟩ ?_))
     refine ⟨(i + 1, z, b), ⟨by show i + 1 ≤ _; omega, hMz, hext, keep (fun q => by rw [h1] at q; cases q), hf1⟩, by show E.length - (i + 1) < E.length - i; omega, ?_⟩
     exact (FLe.conv [⟨100, some 100, 0, ⟨0, .own, 4, 1, z.map zY⟩⟩] (by simp) (by simp) rfl (by repeat (first | exact .nil | refine .low rfl ?_ | refine .same rfl ?_ | refine .bump (Nat.lt_succ_self _) ?_)) (by repeat (first | exact .nil | refine .old rfl (by decide) (by first | rfl | (simp; done) | (congr 1; omega) | (simp; omega) | (simp [List.take_of_length_le]; done) | (refine congrArg (FV.int .i64) ?_; omega)) ?_)) (by repeat (first | exact .nil | refine .cons (.plain rfl rfl (by first | rfl | (simp; done) | (congr 1; omega) | (simp; omega) | (simp [List.take_of_length_le]; done) | (refine congrArg (FV.int .i64) ?_; omega))) ?_ | refine .cons (.own rfl (.head _) rfl (by first | rfl | (simp; done) | (congr 1; omega) | (simp; omega) | (simp [List.take_of_length_le]; done) | (refine congrArg (FV.int .i64) ?_; omega))) ?_)))
   ·have hie : i = E.length := by simp at h; omega
    subst hie
    (repeat (first | refine FW.exit ?_))
    refine ⟨(z, b), ⟨hMz, fun y hy h0 hn => hext.2 _ (hm y hy h0 hn), fun q => ?_⟩, ?_, ?_⟩
    ·obtain ⟨q1, q2⟩ := hf0 q
     rw [List.take_length] at q2
     dsimp only
     rw [q1]; exact q2
    ·dsimp only
     cases b with
     | true => have := hf1 rfl; simp; omega
     | false => have := (hf0 rfl).1; rw [this]; simp
    ·exact (FLe.conv [⟨100, some 100, 0, ⟨0, .own, 4, 1, z.map zY⟩⟩] (by simp) (by simp) rfl (by repeat (first | exact .nil | refine .low rfl ?_ | refine .same rfl ?_ | refine .bump (Nat.lt_succ_self _) ?_)) (by repeat (first | exact .nil | refine .old rfl (by decide) (by first | rfl | (simp; done) | (congr 1; omega) | (simp; omega) | (simp [List.take_of_length_le]; done) | (refine congrArg (FV.int .i64) ?_; omega)) ?_)) (by repeat (first | exact .nil | refine .cons (.plain rfl rfl (by first | rfl | (simp; done) | (congr 1; omega) | (simp; omega) | (simp [List.take_of_length_le]; done) | (refine congrArg (FV.int .i64) ?_; omega))) ?_ | refine .cons (.own rfl (.head _) rfl (by first | rfl | (simp; done) | (congr 1; omega) | (simp; omega) | (simp [List.take_of_length_le]; done) | (refine congrArg (FV.int .i64) ?_; omega))) ?_)))
  ·subst h
   have hout := zbN hin hM hm (hcl rfl)
   rw [← hout]
   clear hout hcl hm hM
   (repeat (first | refine FW.seq ?_ | refine FW.region ?_ | refine FW.block ?_ | refine FW.exit ?_ | refine zd.nil ?_ | refine zc rfl rfl rfl ?_))
   refine FW.loop (fun i : Nat => ⟨[(0, .int .i64 n), (7, .own 100 0 0 n), (11, .own 101 0 0 (ZU s i).length), (12, .int .i64 i)], [(101, ⟨0, .own, 3, 1, (ZU s i).map zq⟩), (100, ⟨0, .own, 4, 1, s.map zY⟩)]⟩) (fun i => i ≤ n) (fun i => n - i) 0 (Nat.zero_le _) ?_ ?_
   ·show FLe _ ⟨[(0, .int .i64 n), (7, .own 100 0 0 n), (11, .own 101 0 0 0), (12, .int .i64 0)], [(101, ⟨0, .own, 3, 1, []⟩), (100, ⟨0, .own, 4, 1, s.map zY⟩)]⟩
    exact (FLe.conv [⟨101, none, 0, ⟨0, .own, 3, 1, []⟩⟩, ⟨100, some 100, 0, ⟨0, .own, 4, 1, s.map zY⟩⟩] (by simp) (by simp) rfl (by repeat (first | exact .nil | refine .low rfl ?_ | refine .same rfl ?_ | refine .bump (Nat.lt_succ_self _) ?_)) (by repeat (first | exact .nil | refine .old rfl (by decide) (by first | rfl | (simp; done) | (congr 1; omega) | (simp; omega) | (simp [List.take_of_length_le]; done) | (refine congrArg (FV.int .i64) ?_; omega)) ?_ | refine .new ?_)) (by repeat (first | exact .nil | refine .cons (.plain rfl rfl (by first | rfl | (simp; done) | (congr 1; omega) | (simp; omega) | (simp [List.take_of_length_le]; done) | (refine congrArg (FV.int .i64) ?_; omega))) ?_ | refine .cons (.nil rfl (.head _) rfl) ?_ | refine .cons (.own rfl (.tail _ (.head _)) rfl (by first | rfl | (simp; done) | (congr 1; omega) | (simp; omega) | (simp [List.take_of_length_le]; done) | (refine congrArg (FV.int .i64) ?_; omega))) ?_)))
   intro i hi
   have hos := YL s i
   have hol := UF s i
   have hlast : i = n → ZU s n = ZU s i := fun e => by rw [e]
   generalize ZU s i = O at hos hol hlast
   (repeat (first | refine FW.seq ?_ | refine FW.region ?_ | refine zd.nil ?_ | refine zb rfl rfl rfl ?_ | refine zK rfl rfl rfl rfl ?_))
   refine FW.cond rfl (fun h => ?_) (fun h => ?_)
   ·have hlt : i < n := by simpa using h
    clear h hlast
    (repeat (first | refine FW.seq ?_ | refine FW.region ?_ | refine FW.block ?_ | refine FW.skip ?_ | refine zd.nil ?_ | refine zb rfl rfl rfl ?_ | refine zB rfl rfl (by first | rfl | exact (Int.toNat_of_nonneg (by omega)).symm) rfl rfl rfl (by decide) rfl (by first | omega | (simp; omega) | (simp; done)) rfl rfl ?_ | refine zO rfl rfl rfl rfl rfl (by first | omega | (simp; omega) | (simp; done)) (by first | exact zf (by omega) | rfl) rfl rfl rfl rfl ?_))
    refine FW.cond rfl (fun h => ?_) (fun h => ?_)
    ·rw [if_pos h] at hos
     (repeat (first | refine FW.region ?_ | refine zd.nil ?_ | refine zc rfl rfl rfl ?_ | refine zb rfl rfl rfl ?_ | refine zw rfl rfl (by omega) rfl rfl ?_ | refine zL rfl rfl rfl rfl rfl rfl rfl rfl ?_ | refine xE rfl rfl (by first | exact List.length_map _ | exact (List.length_map _).symm | exact List.length_replicate | rfl | (simp; done) | omega | (simp; omega)) rfl rfl rfl (by decide) (by first | exact xy.own rfl rfl (by decide) (by first | exact List.length_map _ | exact (List.length_map _).symm | exact List.length_replicate | rfl | (simp; done) | omega | (simp; omega)) | exact xy.list rfl | exact xy.nil rfl | exact xy.part rfl rfl (by decide)) (by first | omega | (simp; omega) | (simp; done)) (by first | omega | (simp; omega) | (simp; done)) rfl rfl rfl ?_))
     refine ⟨i + 1, by omega, by omega, ?_⟩
     rw [hos, List.length_append, List.map_append]
     exact (FLe.conv [⟨101, some 85, 0 + 1, ⟨0, .own, 3, 1, O.map zq ++ [(i : Int)].map zq⟩⟩, ⟨100, some 100, 0, ⟨0, .own, 4, 1, s.map zY⟩⟩] (by simp) (by simp) rfl (by repeat (first | exact .nil | refine .low rfl ?_ | refine .same rfl ?_ | refine .bump (Nat.lt_succ_self _) ?_)) (by repeat (first | exact .nil | refine .old rfl (by decide) (by first | rfl | (simp; done) | (congr 1; omega) | (simp; omega) | (simp [List.take_of_length_le]; done) | (refine congrArg (FV.int .i64) ?_; omega)) ?_)) (by repeat (first | exact .nil | refine .cons (.plain rfl rfl (by first | rfl | (simp; done) | (congr 1; omega) | (simp; omega) | (simp [List.take_of_length_le]; done) | (refine congrArg (FV.int .i64) ?_; omega))) ?_ | refine .cons (.own rfl (.head _) rfl (by first | rfl | (simp; done) | (congr 1; omega) | (simp; omega) | (simp [List.take_of_length_le]; done) | (refine congrArg (FV.int .i64) ?_; omega))) ?_ | refine .cons (.own rfl (.tail _ (.head _)) rfl (by first | rfl | (simp; done) | (congr 1; omega) | (simp; omega) | (simp [List.take_of_length_le]; done) | (refine congrArg (FV.int .i64) ?_; omega))) ?_)))
    ·rw [if_neg (by rw [h]; decide), List.append_nil] at hos
     (repeat (first | refine FW.region ?_ | refine FW.skip ?_ | refine zd.nil ?_ | refine zc rfl rfl rfl ?_ | refine zb rfl rfl rfl ?_ | refine zw rfl rfl (by omega) rfl rfl ?_))
     refine ⟨i + 1, by omega, by omega, ?_⟩
     rw [hos]
     exact (FLe.conv [⟨101, some 101, 0, ⟨0, .own, 3, 1, O.map zq⟩⟩, ⟨100, some 100, 0, ⟨0, .own, 4, 1, s.map zY⟩⟩] (by simp) (by simp) rfl (by repeat (first | exact .nil | refine .low rfl ?_ | refine .same rfl ?_ | refine .bump (Nat.lt_succ_self _) ?_)) (by repeat (first | exact .nil | refine .old rfl (by decide) (by first | rfl | (simp; done) | (congr 1; omega) | (simp; omega) | (simp [List.take_of_length_le]; done) | (refine congrArg (FV.int .i64) ?_; omega)) ?_)) (by repeat (first | exact .nil | refine .cons (.plain rfl rfl (by first | rfl | (simp; done) | (congr 1; omega) | (simp; omega) | (simp [List.take_of_length_le]; done) | (refine congrArg (FV.int .i64) ?_; omega))) ?_ | refine .cons (.own rfl (.head _) rfl (by first | rfl | (simp; done) | (congr 1; omega) | (simp; omega) | (simp [List.take_of_length_le]; done) | (refine congrArg (FV.int .i64) ?_; omega))) ?_ | refine .cons (.own rfl (.tail _ (.head _)) rfl (by first | rfl | (simp; done) | (congr 1; omega) | (simp; omega) | (simp [List.take_of_length_le]; done) | (refine congrArg (FV.int .i64) ?_; omega))) ?_)))
   ·have hin' : i = n := by simp at h; omega
    rw [hlast hin']
    (repeat (first | refine FW.seq ?_ | refine FW.region ?_ | refine FW.exit ?_ | refine zd.nil ?_ | refine zc rfl rfl rfl ?_ | refine zb rfl rfl rfl ?_))
    refine FW.le ?_ (FLe.share 6 rfl rfl (by simp))
    exact FW.ret ⟨.inl rfl, .sh (.cons (.tmp 6 rfl rfl) .nil) rfl rfl⟩
end Go.Proofs.Ythjplkjpehdpfaa
