/- The plain functions that the program computes: the clock, ranks. Conditions: none; no program in it. -/
import Derived.Test.YtkadikbajkjmaaaGreatDoorDat
namespace Go.Proofs.Lk
open Go Go.RowKit

def maxU : Int := 18446744073709551615
def InU (x : Int) : Prop := 0 ≤ x ∧ x ≤ 18446744073709551615
def tAdd (a b : Int) : Int := if b > 18446744073709551615 - a then 18446744073709551615 else a + b
def tLeft (now at_ : Int) : Int := if at_ ≤ now then 0 else at_ - now
def cutC (c : Int) : Int := max 1 (min c 6)
def levelN (c waited aging : Int) : Int := max 1 (cutC c - min (waited / max aging 1) 6)
def levelI (i : Item) (now aging : Int) : Int := levelN i.cls (tLeft i.since now) aging
def lessI (a b : Item) (now aging : Int) : Bool :=
  decide (levelI a now aging < levelI b now aging) || (levelI a now aging == levelI b now aging && decide (a.id < b.id))

theorem tAdd_in {a b : Int} (ha : InU a) (hb : InU b) : InU (tAdd a b) := by
  unfold InU tAdd at *; split <;> omega
theorem tLeft_in {a b : Int} (ha : InU a) (hb : InU b) : InU (tLeft a b) := by
  unfold InU tLeft at *; split <;> omega
theorem cutC_in (c : Int) : 1 ≤ cutC c ∧ cutC c ≤ 6 := by unfold cutC; omega
theorem levelN_in (c waited aging : Int) (hw : 0 ≤ waited) : 1 ≤ levelN c waited aging ∧ levelN c waited aging ≤ 6 := by
  have := cutC_in c
  have h : 0 ≤ waited / max aging 1 := Int.ediv_nonneg hw (by omega)
  unfold levelN
  omega
end Go.Proofs.Lk
