/- sched.Check. Conditions: none. -/
import Derived.Test.YtkadikbajkjmaaaGreatDoorNew
namespace Go.Proofs.Lk
open Go Go.RowKit

structure Cfg where
  total : Int
  aging : Int
  high : Int
  low : Int
  idle : Int
  cache : Int
  timeout : Int
  deriving DecidableEq
instance : Enc Cfg where
  val c := .agg #[.int .i64 c.total, .int .u64 c.aging, .int .i64 c.high, .int .i64 c.low, .int .u64 c.idle, .int .i64 c.cache, .int .u64 c.timeout]
  sz := 7
  cells c := [.int .i64 c.total, .int .u64 c.aging, .int .i64 c.high, .int .i64 c.low, .int .u64 c.idle, .int .i64 c.cache, .int .u64 c.timeout]
  len _ := rfl
  one x := by simp [Value.oneCell']
  pos := by decide
def checkC (c : Cfg) : Bool := decide (1 ≤ c.total ∧ c.total ≤ 32 ∧ 1 ≤ c.high ∧ c.high ≤ 1024 ∧ 0 ≤ c.low ∧ c.low < c.high ∧ 1 ≤ c.cache ∧ c.cache ≤ 64 ∧ 1 ≤ c.aging ∧ c.aging ≤ 1000 ∧ c.idle ≤ 1000 ∧ 1 ≤ c.timeout ∧ c.timeout ≤ 600)


set_option maxRecDepth 100000 in
set_option maxHeartbeats 4000000 in
theorem sched_Check (c : Cfg) (w : World) :
    Calls Tryz.prog 13 #[.agg #[.int .i64 c.total, .int .u64 c.aging, .int .i64 c.high, .int .i64 c.low, .int .u64 c.idle, .int .i64 c.cache, .int .u64 c.timeout]] w fun e w' => e = .returned (.bool (checkC c)) ∧ Below w.heap.size w w' := by
  obtain ⟨c0, c1, c2, c3, c4, c5, c6⟩ := c
  dsimp only
  by_cases a0 : c0 < 1
  · go_enter Tryz.func13, Tryz.ntmps13
    go_wp2
    go_ret
    exact ⟨ret_bool (by unfold checkC; first | (rw [Bool.eq_iff_iff]; simp; omega) | (simp; omega) | simp), (Below.refl _ _).alloc (Nat.le_refl _) _⟩
  replace a0 : 1 ≤ c0 := by omega
  by_cases a1 : 32 < c0
  · go_enter Tryz.func13, Tryz.ntmps13
    go_wp2
    go_ret
    exact ⟨ret_bool (by unfold checkC; first | (rw [Bool.eq_iff_iff]; simp; omega) | (simp; omega) | simp), (Below.refl _ _).alloc (Nat.le_refl _) _⟩
  replace a1 : c0 ≤ 32 := by omega
  by_cases a2 : c2 < 1
  · go_enter Tryz.func13, Tryz.ntmps13
    go_wp2
    go_ret
    exact ⟨ret_bool (by unfold checkC; first | (rw [Bool.eq_iff_iff]; simp; omega) | (simp; omega) | simp), (Below.refl _ _).alloc (Nat.le_refl _) _⟩
  replace a2 : 1 ≤ c2 := by omega
  by_cases a3 : 1024 < c2
  · go_enter Tryz.func13, Tryz.ntmps13
    go_wp2
    go_ret
    exact ⟨ret_bool (by unfold checkC; first | (rw [Bool.eq_iff_iff]; simp; omega) | (simp; omega) | simp), (Below.refl _ _).alloc (Nat.le_refl _) _⟩
  replace a3 : c2 ≤ 1024 := by omega
  by_cases a4 : c3 < 0
  · go_enter Tryz.func13, Tryz.ntmps13
    go_wp2
    go_ret
    exact ⟨ret_bool (by unfold checkC; first | (rw [Bool.eq_iff_iff]; simp; omega) | (simp; omega) | simp), (Below.refl _ _).alloc (Nat.le_refl _) _⟩
  replace a4 : 0 ≤ c3 := by omega
  by_cases a5 : c2 ≤ c3
  · go_enter Tryz.func13, Tryz.ntmps13
    go_wp2
    go_ret
    exact ⟨ret_bool (by unfold checkC; first | (rw [Bool.eq_iff_iff]; simp; omega) | (simp; omega) | simp), (Below.refl _ _).alloc (Nat.le_refl _) _⟩
  replace a5 : c3 < c2 := by omega
  by_cases a6 : c5 < 1
  · go_enter Tryz.func13, Tryz.ntmps13
    go_wp2
    go_ret
    exact ⟨ret_bool (by unfold checkC; first | (rw [Bool.eq_iff_iff]; simp; omega) | (simp; omega) | simp), (Below.refl _ _).alloc (Nat.le_refl _) _⟩
  replace a6 : 1 ≤ c5 := by omega
  by_cases a7 : 64 < c5
  · go_enter Tryz.func13, Tryz.ntmps13
    go_wp2
    go_ret
    exact ⟨ret_bool (by unfold checkC; first | (rw [Bool.eq_iff_iff]; simp; omega) | (simp; omega) | simp), (Below.refl _ _).alloc (Nat.le_refl _) _⟩
  replace a7 : c5 ≤ 64 := by omega
  by_cases a8 : c1 < 1
  · go_enter Tryz.func13, Tryz.ntmps13
    go_wp2
    go_ret
    exact ⟨ret_bool (by unfold checkC; first | (rw [Bool.eq_iff_iff]; simp; omega) | (simp; omega) | simp), (Below.refl _ _).alloc (Nat.le_refl _) _⟩
  replace a8 : 1 ≤ c1 := by omega
  by_cases a9 : 1000 < c1
  · go_enter Tryz.func13, Tryz.ntmps13
    go_wp2
    go_ret
    exact ⟨ret_bool (by unfold checkC; first | (rw [Bool.eq_iff_iff]; simp; omega) | (simp; omega) | simp), (Below.refl _ _).alloc (Nat.le_refl _) _⟩
  replace a9 : c1 ≤ 1000 := by omega
  by_cases a10 : 1000 < c4
  · go_enter Tryz.func13, Tryz.ntmps13
    go_wp2
    go_ret
    exact ⟨ret_bool (by unfold checkC; first | (rw [Bool.eq_iff_iff]; simp; omega) | (simp; omega) | simp), (Below.refl _ _).alloc (Nat.le_refl _) _⟩
  replace a10 : c4 ≤ 1000 := by omega
  by_cases a11 : c6 < 1
  · go_enter Tryz.func13, Tryz.ntmps13
    go_wp2
    go_ret
    exact ⟨ret_bool (by unfold checkC; first | (rw [Bool.eq_iff_iff]; simp; omega) | (simp; omega) | simp), (Below.refl _ _).alloc (Nat.le_refl _) _⟩
  replace a11 : 1 ≤ c6 := by omega
  by_cases a12 : 600 < c6
  · go_enter Tryz.func13, Tryz.ntmps13
    go_wp2
    go_ret
    exact ⟨ret_bool (by unfold checkC; first | (rw [Bool.eq_iff_iff]; simp; omega) | (simp; omega) | simp), (Below.refl _ _).alloc (Nat.le_refl _) _⟩
  replace a12 : c6 ≤ 600 := by omega
  go_enter Tryz.func13, Tryz.ntmps13
  go_wp2
  go_ret
  exact ⟨ret_bool (by unfold checkC; first | (rw [Bool.eq_iff_iff]; simp; omega) | (simp; omega) | simp), (Below.refl _ _).alloc (Nat.le_refl _) _⟩

end Go.Proofs.Lk
