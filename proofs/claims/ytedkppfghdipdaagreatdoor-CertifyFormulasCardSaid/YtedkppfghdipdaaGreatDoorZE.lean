/-
  Lemmas, in parts.
-/
import Derived.Test.YtedkppfghdipdaaGreatDoorZC
import Derived.Deep.RegionHeld3
import Derived.Deep.DrawnRows
import Derived.Deep.DeepCutAuto
namespace Go.Proofs.YtedkppfghdipdaaGreatDoor
set_option linter.unusedVariables false
set_option maxHeartbeats 16000000
section
open Go.RowKit
attribute [local go_sem ↓] Go.wp_at_zero Go.wp_at_succ
end
section
open Go.RowKit
attribute [local go_sem ↓] Go.wp_at_zero Go.wp_at_succ
end
section
open Go.RowKit
attribute [local go_sem ↓] Go.wp_at_zero Go.wp_at_succ
end
section
open Go.RowKit
attribute [local go_sem ↓] Go.wp_at_zero Go.wp_at_succ
end
/-! ### the observations made from numbers are of sequential processes -/
/-! ### replies and invocations of observations made from numbers -/
/-! ### what an operation looks like -/
/-! ### how many are done -/
section
open Go.RowKit
attribute [local go_sem ↓] Go.wp_at_zero Go.wp_at_succ
structure fM where
 p:Int
 inv:Bool
 n:Int
 deriving DecidableEq,Inhabited
section
variable {w:World} {B:Nat} {A:Option Addr}
end
structure nD where
 out:List fM
 eU:List Int
 calls:Nat
def FL:nD:=⟨[],[0,0,0,0],0⟩
def FF (aV n:Int) (p:Nat) (s:nD):nD:=
 if nth s.eU p=0∧(s.calls:Int)<aV then ⟨s.out++[⟨p,true,n / 4⟩],s.eU.set p 1,s.calls+1⟩
 else if nth s.eU p=1∧n / 4 % 11=10 then { s with eU:=s.eU.set p 2 }
 else if nth s.eU p=1 then { s with eU:=s.eU.set p 0,out:=s.out++[⟨p,false,n / 4⟩] }
 else s
def FM (l:List Int) (aV:Int) (i:Nat) (s:nD):nD:=FF aV (xy (nth l i) 1000000) (xy (nth l i) 1000000 % 4).toNat s
def Gj (l:List Int) (aV:Int) (k:Nat):nD:=pd (FM l aV) FL k
def nA (l:List Int) (aV:Int):List fM:=(Gj l aV (min l.length 40)).out
end
def eU (ev:List fM):Nat→Int→Bool
 | 0, _ => false
 | k+1, p => if (nth ev k).p=p then (nth ev k).inv else eU ev k p
section
open Go.RowKit
end
section
open Go.RowKit
attribute [local go_sem ↓] Go.wp_at_zero Go.wp_at_succ
def FH (l:List Int) (aV:Int):Int:=if l.length=0 then 0 else xy (nth l 0) aV
/-! ### chosen -/
def qg (ws:List Int) (key:Int):Nat→List Int
 | 0 => [0]
 | k+1 => if nth ws k=key then qg ws key k ++ [(k:Int)+1] else qg ws key k
def wo (ws:List Int) (key n mG:Int) (fresh:Bool):Int:=
 if fresh=true∧0<n % 7 then mG
 else if n % 13=12 then 1+n / 13 % 12
 else nth (qg ws key ws.length) (n / 2 % (qg ws key ws.length).length).toNat
/-! ### popped -/
def vY (eN taken:List Int) (key:Int) (k:Nat):Nat→Int
 | 0 => 0
 | m+1 => if nth eN k=key ∧ ¬ ((k:Int)+1) ∈ taken then (k:Int)+1 else vY eN taken key (k+1) m
def vZ (eN taken:List Int) (key n:Int):Int:=
 if n % 9=8 then n / 9 % 9 else if 0<n % 5 then vY eN taken key 0 eN.length else 0
end
section
open Go.RowKit
end
end Go.Proofs.YtedkppfghdipdaaGreatDoor
