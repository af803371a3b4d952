/-
  simprooflaw23.CausalProof answers true for every input (walked on plain values).
-/
import Derived.Test.YtmnmakhpjgjdaaaZFmCp1
namespace Go.Proofs.Ytmnmakhpjgjdaaa
set_option linter.unusedVariables false
set_option maxHeartbeats 16000000
open Go.RowKit
theorem zfd {l:List OpV} {x y:Nat}:(ZN l x y).length≤l.length:=Uo
theorem Ub (l:List Int) (hl:∀ x∈l,I64 x) (hlen:l.length≤9223372036854775807):zU Try.prog 7 [.list 1 (l.map zp)] .fr (.bool true):=by
 obtain ⟨_,hin,hsm,hn⟩:=Wb l (most:=14) za za
 have hC:=zfi l 14 hl hlen (by unfold I64;omega)
 have D:=zf9 l 14
 have W:=zkI l (most:=14) za za
 have he:=zjm l (most:=14) za za
 generalize yn l 14=H at *
 have hn:H.length≤14:=by omega
 have h1:=zaq H hn hin
 rw [he] at h1
 unfold zmg at h1
 rw [if_neg (by simp [he])] at h1
 unfold zmM at h1
 cases ht:zbk H with
 | some i =>
  rw [ht] at h1
  obtain ⟨g1,g2,g3,g4,g5⟩:=zlW ht
  exact zha l hl hlen H hC hn i h1 g1 g2 g3 g4 g5
 | none=>
  rw [ht] at h1
  dsimp only at h1
  by_cases hc:YI H≠[]
  ·rw [if_pos hc] at h1
   obtain ⟨x,k1,k2⟩:=zgW hc
   have:=zfF H
   exact zi0 l hl hlen H hC hn _ x h1 k1 k2 (by simp [YJ];omega)
  ·rw [if_neg hc] at h1
   have hc:YI H=[]:=by simpa using hc
   cases ho:zbh H with
   | some x =>
    obtain ⟨w1,w2,i⟩:=x
    rw [ho] at h1
    dsimp only at h1
    unfold zbh at ho
    obtain ⟨_,i',_,ei,ho,_⟩:=List.findSome?_eq_some_iff.1 ho
    have hi' : i'∈zI H H.length:=by rw [ei];simp
    clear ei
    unfold Ye at ho
    obtain ⟨a,ha,ho⟩:=Option.bind_eq_some_iff.1 ho
    obtain ⟨q,hq,eq⟩:=Option.map_eq_some_iff.1 ho
    injection eq with q1 q2
    injection q2 with q2 q3
    subst q1;subst q2;subst q3
    have hqI:q∈zI H H.length:=List.mem_of_find?_eq_some hq
    have hb:=List.find?_some hq
    unfold zcK at hb
    simp only [Bool.and_eq_true,decide_eq_true_eq] at hb
    obtain ⟨⟨⟨⟨b1,b2⟩,b3⟩,b4⟩,b5⟩:=hb
    have n4:ZN H a q≠[]:=by rintro e;rw [e] at b4;cases b4
    have n5:ZN H q i'≠[]:=by rintro e;rw [e] at b5;cases b5
    obtain ⟨f1,f2,f3,f4,f5,f6,_,f8⟩:=zdA ha (xA.1 hi').2
    have hlk:=zah (WK n5) _ _ (WK n4)
    have e1:=@zfd H a q
    have e2:=@zfd H q i'
    obtain ⟨e,m1,m2⟩:=zdW _ _ (WK n4) n4
    refine zg9 l hl hlen H hC hn a q i' _ _ h1 (fun j hj=>?_) hlk (by simp [n4]) (by rw [List.length_append];omega) f3 ⟨e,List.mem_append_left _ m1,m2⟩ f6.symm (fun h=>b3 h.symm)
    have h3:j=0∨j=1∨j=2:=by omega
    rcases h3 with rfl|rfl|rfl
    ·exact ⟨f8,f5.trans b2.symm,by show (nth H a).k=0↔_;omega⟩
    ·exact ⟨yR hqI,rfl,by show (nth H q).k=0↔_;omega⟩
    ·exact ⟨yR hi',b2.symm,by show (nth H i').k=0↔_;omega⟩
   | none=>
    rw [ho] at h1
    dsimp only at h1
    cases hi:zbg H with
    | some x=>
     obtain ⟨w,i⟩:=x
     rw [hi] at h1
     dsimp only at h1
     unfold zbg at hi
     obtain ⟨_,i',_,ei,hi,_⟩:=List.findSome?_eq_some_iff.1 hi
     have hi' : i'∈zI H H.length:=by rw [ei];simp
     clear ei
     unfold Ya at hi
     split at hi
     ·cases hi
     ·rename_i hcc
      simp only [not_or,Classical.not_not] at hcc
      obtain ⟨q,hq,eq⟩:=Option.map_eq_some_iff.1 hi
      injection eq with q1 q2
      subst q1;subst q2
      have hqI:q∈zI H H.length:=List.mem_of_find?_eq_some hq
      have hb:=List.find?_some hq
      unfold zcz at hb
      simp only [Bool.and_eq_true,decide_eq_true_eq] at hb
      obtain ⟨⟨b1,b2⟩,b3⟩:=hb
      have n3:ZN H q i'≠[]:=by rintro e;rw [e] at b3;cases b3
      have e1:=@zfd H q i'
      refine zg8 l hl hlen H hC hn q i' _ _ h1 (fun j hj=>?_) (WK n3) n3 za (Vo hcc.1 (xA.1 hi').2) hcc.2
      have h3:j=0∨j=1:=by omega
      rcases h3 with rfl|rfl
      ·exact ⟨yR hqI,rfl,by show (nth H q).k=0↔_;omega⟩
      ·exact ⟨yR hi',b2.symm,by show (nth H i').k=0↔_;omega⟩
    | none =>
     rw [hi] at h1
     obtain ⟨x1,x2,x3,x4,x5⟩:=zkC W D hc
     exact zg7 l hl hlen H hC hn (YM H) h1 (zdu H (YM H) hn za x2 x3 x4 x5)
end Go.Proofs.Ytmnmakhpjgjdaaa
