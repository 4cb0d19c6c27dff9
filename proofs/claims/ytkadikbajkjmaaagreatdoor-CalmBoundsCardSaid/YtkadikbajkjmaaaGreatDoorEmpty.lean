/- What is told of a scheduler that has just been made. Conditions: it is one. -/
import Derived.Test.YtkadikbajkjmaaaGreatDoorSchedN
namespace Go.Proofs.Lk
open Go Go.RowKit
attribute [local go_sem ↓] Go.wp_at_zero Go.wp_at_succ

set_option maxRecDepth 100000 in
set_option maxHeartbeats 1000000 in
theorem fetches_empty (s : Nat) (w : World) (h17 : w.cell? ⟨s, 17, none⟩ = some (.slice none 0 0)) :
    Calls Tryz.prog 23 #[.pointer (some ⟨s, 0, none⟩)] w fun e w' => e = .returned (.slice none 0 0) ∧ w' = w := by
  go_enter Tryz.func23, Tryz.ntmps23
  go_wp2
  refine wp_loop_rounds 1 ?_
  rw [rounds_succ]
  go_wp2
  go_ret
  exact ⟨rfl, rfl⟩

set_option maxRecDepth 100000 in
set_option maxHeartbeats 1000000 in
theorem rest_empty (s : Nat) (w : World) (h17 : w.cell? ⟨s, 17, none⟩ = some (.slice none 0 0)) :
    Calls Tryz.prog 11 #[.pointer (some ⟨s, 0, none⟩)] w fun e w' => e = .returned (.slice none 0 0) ∧ w' = w := by
  go_enter Tryz.func11, Tryz.ntmps11
  go_wp2_with fail
  refine (fetches_empty s w h17).mono ?_
  rintro e w' ⟨rfl, rfl⟩
  go_wp2
  refine wp_loop_rounds 1 ?_
  rw [rounds_succ]
  go_wp2
  go_ret
  exact ⟨rfl, rfl⟩

set_option maxRecDepth 100000 in
set_option maxHeartbeats 1000000 in
theorem calm_empty (s : Nat) (w : World) (h17 : w.cell? ⟨s, 17, none⟩ = some (.slice none 0 0)) :
    Calls Tryz.prog 12 #[.pointer (some ⟨s, 0, none⟩), .slice none 0 0] w fun e w' => e = .returned (.int .i64 0) ∧ w' = w := by
  go_enter Tryz.func12, Tryz.ntmps12
  go_wp2
  refine wp_loop_rounds 1 ?_
  rw [rounds_succ]
  go_wp2_with (go_at_call 11; refine (rest_empty s w h17).mono ?_; rintro e w' ⟨rfl, rfl⟩)
  go_ret
  exact ⟨rfl, rfl⟩

set_option maxRecDepth 100000 in
set_option maxHeartbeats 1000000 in
theorem ins_empty (f : Value) (w : World) :
    Calls Tryz.prog 105 #[.slice none 0 0, .int .i64 0, .int .i64 0, f] w fun e w' => e = .returned (.tuple #[]) ∧ w' = w := by
  go_enter Tryz.func105, Tryz.ntmps105
  go_wp2
  refine wp_loop_rounds 1 ?_
  rw [rounds_succ]
  go_wp2
  go_end0
  exact ⟨rfl, rfl⟩

set_option maxRecDepth 100000 in
set_option maxHeartbeats 1000000 in
theorem pdq_empty (n : Int) (f : Value) (w : World) :
    Calls Tryz.prog 56 #[.slice none 0 0, .int .i64 0, .int .i64 0, .int .i64 n, f] w fun e w' => e = .returned (.tuple #[]) ∧ w' = w := by
  go_enter Tryz.func56, Tryz.ntmps56
  go_wp2
  refine wp_loop_rounds 1 ?_
  rw [rounds_succ]
  go_wp2_with (go_at_call 105; refine (ins_empty _ _).mono ?_; rintro e w' ⟨rfl, rfl⟩)
  (try simp only [Exit.inBlock, Exit.then])
  exact bodyPost_ret (results_none rfl _ _ _) rfl ⟨rfl, rfl⟩

set_option maxRecDepth 100000 in
set_option maxHeartbeats 1000000 in
theorem sort_empty (f : Value) (w : World) :
    Calls Tryz.prog 33 #[.slice none 0 0, f] w fun e w' => e = .returned (.tuple #[]) ∧ w' = w := by
  go_enter Tryz.func33, Tryz.ntmps33
  go_wp2_with (first | (go_at_call 56; refine (pdq_empty _ _ _).mono ?_; rintro e w' ⟨rfl, rfl⟩) | go_in)
  go_end0
  exact ⟨rfl, rfl⟩

set_option maxRecDepth 100000 in
set_option maxHeartbeats 1000000 in
theorem conns_empty (s : Nat) (w : World) (h17 : w.cell? ⟨s, 17, none⟩ = some (.slice none 0 0)) (h18 : w.cell? ⟨s, 18, none⟩ = some (.slice none 0 0)) :
    Calls Tryz.prog 24 #[.pointer (some ⟨s, 0, none⟩)] w fun e w' => e = .returned (.slice none 0 0) ∧ w' = w := by
  go_enter Tryz.func24, Tryz.ntmps24
  go_wp2
  refine wp_loop_rounds 1 ?_
  rw [rounds_succ]
  go_wp2
  refine wp_loop_rounds 1 ?_
  rw [rounds_succ]
  go_wp2_with (go_at_call 33; refine (sort_empty _ w).mono ?_; rintro e w' ⟨rfl, rfl⟩)
  go_ret
  exact ⟨rfl, rfl⟩

set_option maxRecDepth 100000 in
set_option maxHeartbeats 1000000 in
theorem round_empty (s : Nat) (w : World) (h17 : w.cell? ⟨s, 17, none⟩ = some (.slice none 0 0)) (h18 : w.cell? ⟨s, 18, none⟩ = some (.slice none 0 0)) :
    Calls Tryz.prog 10 #[.pointer (some ⟨s, 0, none⟩), .int .i64 1] w fun e w' => ∃ b, e = .returned (.slice (some ⟨b, 0, none⟩) 2 2) ∧ w'.cell? ⟨b, 0, none⟩ = some (.int .i64 8) ∧ w'.cell? ⟨b, 4, none⟩ = some (.int .u64 1) ∧ w'.cell? ⟨b, 18, none⟩ = some (.int .i64 9) ∧ Below w.heap.size w w' := by
  have hlt : s < w.heap.size := World.block_lt_of_cell? w _ h17
  have hmm := @run_makeMap Tryz.prog
  have hl2 : s < w.heap.size + 1 := by omega
  go_enter Tryz.func10, Tryz.ntmps10
  go_wp2_with fail
  refine (fetches_empty s _ (by go_simp)).mono ?_
  rintro e w' ⟨rfl, rfl⟩
  go_wp2
  refine wp_loop_rounds 1 ?_
  rw [rounds_succ]
  go_wp2_with fail
  refine (conns_empty s _ (by go_simp) (by go_simp)).mono ?_
  rintro e w' ⟨rfl, rfl⟩
  go_wp2
  refine wp_loop_rounds 1 ?_
  rw [rounds_succ]
  go_wp2
  go_ret
  refine ⟨w.heap.size, rfl, by go_simp, by go_simp, by go_simp, ?_⟩
  exact ((Below.refl _ _).alloc (Nat.le_refl _) _).alloc (by simp) _
end Go.Proofs.Lk
