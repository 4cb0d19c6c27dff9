/- slices.Index and slices.Contains at ints and strings. Conditions: the rows are shorter than 1,000,000. -/
import Derived.Test.YtkadikbajkjmaaaGreatDoorLibA
namespace Go.Proofs.Lk
open Go Go.RowKit

theorem contains_idx {α : Type} [BEq α] [LawfulBEq α] (l : List α) (x : α) : decide (0 ≤ idxOf (fun y => y == x) l) = l.contains x := by
  rcases idxOf_cases (fun y => y == x) l with ⟨h, hall⟩ | ⟨k, hk, h, hp, _⟩
  · rw [h]
    have : l.contains x = false := by
      rw [Bool.eq_false_iff]
      intro hc
      have := hall x (by simpa using hc)
      simp at this
    rw [this]; rfl
  · rw [h]
    have : l.contains x = true := by
      simp at hp
      rw [List.contains_iff_mem, ← hp]
      exact List.getElem_mem hk
    rw [this]; simp


set_option maxRecDepth 100000 in
set_option maxHeartbeats 1000000 in
theorem index_Int (v : Value) (l : List Int) (x : Int) (w : World) (hn : l.length ≤ 1000000) (hr : RowsIn w v l) :
    Calls Tryz.prog 144 #[v, .int .i64 x] w fun e w' => e = .returned (.int .i64 (idxOf (fun y => y == x) l)) ∧ w' = w := by
  rcases hr with ⟨rfl, rfl⟩ | ⟨b, off, cap, rfl, hc⟩
  · go_enter Tryz.func144, Tryz.ntmps144
    go_wp2
    go_loop [5, 8] (fun _ i => i = .int .i64 0) (fun _ i => 0)
    case atStart => rfl
    case round =>
      obtain rfl := hrel
      go_wp2
      go_ret
      exact ⟨rfl, rfl⟩
  · have Hc := Lib.hid hc; clear hc
    go_enter Tryz.func144, Tryz.ntmps144
    go_wp2
    go_loop [5, 8] (fun _ i => ∃ k : Nat, k ≤ l.length ∧ i = .int .i64 k ∧ (∀ y ∈ l.take k, (y == x) = false)) (fun _ i => l.length - (intOf i).toNat)
    case atStart => exact ⟨0, Nat.zero_le _, rfl, by simp⟩
    case round =>
      obtain ⟨k, hk, rfl, hall⟩ := hrel
      have Hall := Lib.hid hall; clear hall
      by_cases hlt : k < l.length
      · have c0 := Int.reads Hc.out k hlt
        generalize hit : l[k] = x0 at *
        have Hit := Lib.hid hit; clear hit
        cases hpp : x == x0 with
        | true =>
          have Hpp := Lib.hid hpp
          skip
          go_wp2
          go_ret
          rw [idxOf_hit (fun y => y == x) l k hlt Hall.out (by rw [Hit.out, beq_sym]; exact Hpp.out)]
          exact ⟨rfl, rfl⟩
        | false =>
          have Hpp := Lib.hid hpp
          skip
          go_wp2
          go_round
          case rel => exact ⟨k + 1, by omega, by go_num, take_succ_all (fun y => y == x) l k hlt Hall.out (by rw [Hit.out, beq_sym]; exact Hpp.out)⟩
          case measure => simp [intOf]; omega
      · go_wp2
        go_ret
        have : k = l.length := by omega
        subst this
        rw [idxOf_miss (fun y => y == x) l (by simpa using Hall.out)]
        exact ⟨rfl, rfl⟩

set_option maxRecDepth 100000 in
theorem contains_Int (v : Value) (l : List Int) (x : Int) (w : World) (hn : l.length ≤ 1000000) (hr : RowsIn w v l) :
    Calls Tryz.prog 77 #[v, .int .i64 x] w fun e w' => e = .returned (.bool (l.contains x)) ∧ w' = w := by
  have Hr := Lib.hid hr
  clear hr
  have HC := Lib.hid (contains_idx l x)
  obtain ⟨j, hj⟩ : ∃ j, j = idxOf (fun y => y == x) l := ⟨_, rfl⟩
  have Hj := Lib.hid hj
  clear hj
  by_cases hjj : 0 ≤ j
  all_goals
    go_enter Tryz.func77, Tryz.ntmps77
    go_wp2_with fail
    refine (index_Int _ _ _ _ hn Hr.out).mono ?_
    rw [← Hj.out]
    rintro e w' ⟨rfl, rfl⟩
    go_wp2
    go_ret
    refine ⟨?_, rfl⟩
    rw [← HC.out, ← Hj.out]
    simp [hjj]


set_option maxRecDepth 100000 in
set_option maxHeartbeats 1000000 in
theorem index_Str (v : Value) (l : List ByteArray) (x : ByteArray) (w : World) (hn : l.length ≤ 1000000) (hr : RowsIn w v l) :
    Calls Tryz.prog 241 #[v, .string x] w fun e w' => e = .returned (.int .i64 (idxOf (fun y => y == x) l)) ∧ w' = w := by
  rcases hr with ⟨rfl, rfl⟩ | ⟨b, off, cap, rfl, hc⟩
  · go_enter Tryz.func241, Tryz.ntmps241
    go_wp2
    go_loop [5, 8] (fun _ i => i = .int .i64 0) (fun _ i => 0)
    case atStart => rfl
    case round =>
      obtain rfl := hrel
      go_wp2
      go_ret
      exact ⟨rfl, rfl⟩
  · have Hc := Lib.hid hc; clear hc
    go_enter Tryz.func241, Tryz.ntmps241
    go_wp2
    go_loop [5, 8] (fun _ i => ∃ k : Nat, k ≤ l.length ∧ i = .int .i64 k ∧ (∀ y ∈ l.take k, (y == x) = false)) (fun _ i => l.length - (intOf i).toNat)
    case atStart => exact ⟨0, Nat.zero_le _, rfl, by simp⟩
    case round =>
      obtain ⟨k, hk, rfl, hall⟩ := hrel
      have Hall := Lib.hid hall; clear hall
      by_cases hlt : k < l.length
      · have c0 := Str.reads Hc.out k hlt
        generalize hit : l[k] = x0 at *
        have Hit := Lib.hid hit; clear hit
        cases hpp : x == x0 with
        | true =>
          have Hpp := Lib.hid hpp
          rw [← str_beq] at hpp
          go_wp2
          go_ret
          rw [idxOf_hit (fun y => y == x) l k hlt Hall.out (by rw [Hit.out, beq_sym]; exact Hpp.out)]
          exact ⟨rfl, rfl⟩
        | false =>
          have Hpp := Lib.hid hpp
          rw [← str_beq] at hpp
          go_wp2
          go_round
          case rel => exact ⟨k + 1, by omega, by go_num, take_succ_all (fun y => y == x) l k hlt Hall.out (by rw [Hit.out, beq_sym]; exact Hpp.out)⟩
          case measure => simp [intOf]; omega
      · go_wp2
        go_ret
        have : k = l.length := by omega
        subst this
        rw [idxOf_miss (fun y => y == x) l (by simpa using Hall.out)]
        exact ⟨rfl, rfl⟩

set_option maxRecDepth 100000 in
theorem contains_Str (v : Value) (l : List ByteArray) (x : ByteArray) (w : World) (hn : l.length ≤ 1000000) (hr : RowsIn w v l) :
    Calls Tryz.prog 158 #[v, .string x] w fun e w' => e = .returned (.bool (l.contains x)) ∧ w' = w := by
  have Hr := Lib.hid hr
  clear hr
  have HC := Lib.hid (contains_idx l x)
  obtain ⟨j, hj⟩ : ∃ j, j = idxOf (fun y => y == x) l := ⟨_, rfl⟩
  have Hj := Lib.hid hj
  clear hj
  by_cases hjj : 0 ≤ j
  all_goals
    go_enter Tryz.func158, Tryz.ntmps158
    go_wp2_with fail
    refine (index_Str _ _ _ _ hn Hr.out).mono ?_
    rw [← Hj.out]
    rintro e w' ⟨rfl, rfl⟩
    go_wp2
    go_ret
    refine ⟨?_, rfl⟩
    rw [← HC.out, ← Hj.out]
    simp [hjj]

end Go.Proofs.Lk
