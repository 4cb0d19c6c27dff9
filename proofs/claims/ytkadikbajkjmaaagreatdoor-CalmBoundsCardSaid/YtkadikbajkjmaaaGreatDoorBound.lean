/- calm.Bound is the document's, and no greater than the time. Conditions: the numbers are those of their kinds. -/
import Derived.Test.YtkadikbajkjmaaaGreatDoorEmpty
namespace Go.Proofs.Lk
open Go Go.RowKit

def satU (x : Int) : Int := min 18446744073709551615 x
theorem satU_in {x : Int} (h : 0 ≤ x) : InU (satU x) := by unfold InU satU; omega
theorem tAdd_sat {q x : Int} (hx : InU x) : tAdd (satU q) x = satU (q + x) := by unfold tAdd satU InU at *; split <;> omega
theorem satU_add {q x : Int} (hx : InU x) : satU (satU q + x) = satU (q + x) := by unfold satU InU at *; omega
def boundC (n l t : Int) : Int := min t (satU (5 * max n 0 + max l 0))
theorem mul_succ (k : Nat) (m : Int) : ((k + 1 : Nat) : Int) * m = k * m + m := by rw [Int.natCast_add, Int.add_mul]; omega

set_option maxRecDepth 100000 in
set_option maxHeartbeats 1000000 in
theorem ref_Add (a b : Int) (ha : InU a) (hb : InU b) (w : World) :
    Calls Tryz.prog 8 #[.int .u64 a, .int .u64 b] w fun e w' => e = .returned (.int .u64 (satU (a + b))) ∧ w' = w := by
  unfold InU at ha hb
  by_cases h : b > 18446744073709551615 - a
  all_goals
    go_enter Tryz.func8, Tryz.ntmps8
    go_wp2
    go_ret
    exact ⟨ret_int (by unfold satU; omega), rfl⟩

set_option maxRecDepth 100000 in
set_option maxHeartbeats 2000000 in
theorem calm_Bound (n l t : Int) (hn : -9223372036854775808 ≤ n ∧ n ≤ 9223372036854775807) (hl : -9223372036854775808 ≤ l ∧ l ≤ 9223372036854775807) (ht : InU t) (w : World) :
    Calls Tryz.prog 4 #[.int .i64 n, .int .i64 l, .int .u64 t] w fun e w' => e = .returned (.int .u64 (boundC n l t)) ∧ w' = w := by
  obtain ⟨m, hm⟩ : ∃ m, m = max n 0 := ⟨_, rfl⟩
  have hm0 : 0 ≤ m := by omega
  have hm1 : m ≤ 9223372036854775807 := by omega
  have Hm := Lib.hid hm
  have Ht := Lib.hid ht
  unfold InU at ht
  clear hm
  have Hu : Hid (InU m) := Lib.hid (by unfold InU; omega)
  have Hq : Hid (∀ k : Nat, (0 : Int) ≤ (k : Int) * m) := Lib.hid (fun k => Int.mul_nonneg (Int.natCast_nonneg k) hm0)
  have TT : ∀ x, x = m → ∀ (k : Nat) (W : World), Calls Tryz.prog 7 #[.int .u64 (satU (k * m)), .int .u64 x] W fun e w' => e = .returned (.int .u64 (satU (((k + 1 : Nat) : Int) * m))) ∧ w' = W := by
    rintro x rfl k W
    have := tick_Add (satU (k * x)) x (satU_in (Hq.out k)) Hu.out W
    rw [tAdd_sat Hu.out, ← mul_succ] at this
    exact this
  obtain ⟨s6, h6⟩ : ∃ s, s = satU (5 * max n 0 + max l 0) := ⟨_, rfl⟩
  have Hr : Hid (boundC n l t = min t s6) := Lib.hid (by unfold boundC; rw [← h6])
  have UU : ∀ y, y = max l 0 → ∀ (W : World), Calls Tryz.prog 7 #[.int .u64 (satU (((5 : Nat) : Int) * m)), .int .u64 y] W fun e w' => e = .returned (.int .u64 s6) ∧ w' = W := by
    rintro y hy W
    have hyu : InU y := by unfold InU; omega
    have := tick_Add (satU (((5 : Nat) : Int) * m)) y (satU_in (Hq.out 5)) hyu W
    rw [tAdd_sat hyu, Hm.out, hy] at this
    rw [h6, Hm.out, hy]
    exact this
  clear h6
  by_cases c1 : n < 0 <;> by_cases c2 : l < 0
  · have T := Lib.hid (TT 0 (by have := Hm.out; omega))
    have U := Lib.hid (UU 0 (by omega))
    clear TT UU
    go_enter Tryz.func4, Tryz.ntmps4
    go_wp2
    go_loop [7, 8] (fun s i => ∃ k : Nat, k ≤ 5 ∧ i = .int .i64 k ∧ s = .int .u64 (satU (k * m))) (fun _ i => 5 - (intOf i).toNat)
    case atStart => exact ⟨0, by omega, rfl, by simp [satU]; omega⟩
    case round =>
      obtain ⟨k, hk, rfl, rfl⟩ := hrel
      by_cases hlt : k < 5
      · go_wp2_with (go_at_call 7; (with_reducible refine (T.out k _).mono ?_); rintro e w' ⟨rfl, rfl⟩)
        go_round
        case rel => exact ⟨k + 1, by omega, by go_num, rfl⟩
        case measure => simp [intOf]; omega
      · obtain rfl : k = 5 := by omega
        generalize hs : satU (((5 : Nat) : Int) * m) = s5 at *
        have Hs := Lib.hid hs
        clear hs
        by_cases c3 : s6 < t
        all_goals
          go_wp2_with (go_at_call 7; (with_reducible refine (U.out _).mono ?_); rintro e w' ⟨rfl, rfl⟩)
          all_goals
            go_ret
            refine ⟨ret_int ?_, rfl⟩
            rw [Hr.out]
            omega
  · have T := Lib.hid (TT 0 (by have := Hm.out; omega))
    have U := Lib.hid (UU l (by omega))
    clear TT UU
    go_enter Tryz.func4, Tryz.ntmps4
    go_wp2
    go_loop [7, 8] (fun s i => ∃ k : Nat, k ≤ 5 ∧ i = .int .i64 k ∧ s = .int .u64 (satU (k * m))) (fun _ i => 5 - (intOf i).toNat)
    case atStart => exact ⟨0, by omega, rfl, by simp [satU]; omega⟩
    case round =>
      obtain ⟨k, hk, rfl, rfl⟩ := hrel
      by_cases hlt : k < 5
      · go_wp2_with (go_at_call 7; (with_reducible refine (T.out k _).mono ?_); rintro e w' ⟨rfl, rfl⟩)
        go_round
        case rel => exact ⟨k + 1, by omega, by go_num, rfl⟩
        case measure => simp [intOf]; omega
      · obtain rfl : k = 5 := by omega
        generalize hs : satU (((5 : Nat) : Int) * m) = s5 at *
        have Hs := Lib.hid hs
        clear hs
        by_cases c3 : s6 < t
        all_goals
          go_wp2_with (go_at_call 7; (with_reducible refine (U.out _).mono ?_); rintro e w' ⟨rfl, rfl⟩)
          all_goals
            go_ret
            refine ⟨ret_int ?_, rfl⟩
            rw [Hr.out]
            omega
  · have T := Lib.hid (TT n (by have := Hm.out; omega))
    have U := Lib.hid (UU 0 (by omega))
    clear TT UU
    go_enter Tryz.func4, Tryz.ntmps4
    go_wp2
    go_loop [7, 8] (fun s i => ∃ k : Nat, k ≤ 5 ∧ i = .int .i64 k ∧ s = .int .u64 (satU (k * m))) (fun _ i => 5 - (intOf i).toNat)
    case atStart => exact ⟨0, by omega, rfl, by simp [satU]; omega⟩
    case round =>
      obtain ⟨k, hk, rfl, rfl⟩ := hrel
      by_cases hlt : k < 5
      · go_wp2_with (go_at_call 7; (with_reducible refine (T.out k _).mono ?_); rintro e w' ⟨rfl, rfl⟩)
        go_round
        case rel => exact ⟨k + 1, by omega, by go_num, rfl⟩
        case measure => simp [intOf]; omega
      · obtain rfl : k = 5 := by omega
        generalize hs : satU (((5 : Nat) : Int) * m) = s5 at *
        have Hs := Lib.hid hs
        clear hs
        by_cases c3 : s6 < t
        all_goals
          go_wp2_with (go_at_call 7; (with_reducible refine (U.out _).mono ?_); rintro e w' ⟨rfl, rfl⟩)
          all_goals
            go_ret
            refine ⟨ret_int ?_, rfl⟩
            rw [Hr.out]
            omega
  · have T := Lib.hid (TT n (by have := Hm.out; omega))
    have U := Lib.hid (UU l (by omega))
    clear TT UU
    go_enter Tryz.func4, Tryz.ntmps4
    go_wp2
    go_loop [7, 8] (fun s i => ∃ k : Nat, k ≤ 5 ∧ i = .int .i64 k ∧ s = .int .u64 (satU (k * m))) (fun _ i => 5 - (intOf i).toNat)
    case atStart => exact ⟨0, by omega, rfl, by simp [satU]; omega⟩
    case round =>
      obtain ⟨k, hk, rfl, rfl⟩ := hrel
      by_cases hlt : k < 5
      · go_wp2_with (go_at_call 7; (with_reducible refine (T.out k _).mono ?_); rintro e w' ⟨rfl, rfl⟩)
        go_round
        case rel => exact ⟨k + 1, by omega, by go_num, rfl⟩
        case measure => simp [intOf]; omega
      · obtain rfl : k = 5 := by omega
        generalize hs : satU (((5 : Nat) : Int) * m) = s5 at *
        have Hs := Lib.hid hs
        clear hs
        by_cases c3 : s6 < t
        all_goals
          go_wp2_with (go_at_call 7; (with_reducible refine (U.out _).mono ?_); rintro e w' ⟨rfl, rfl⟩)
          all_goals
            go_ret
            refine ⟨ret_int ?_, rfl⟩
            rw [Hr.out]
            omega

set_option maxRecDepth 100000 in
set_option maxHeartbeats 2000000 in
theorem ref_Bound (n l t : Int) (hn : -9223372036854775808 ≤ n ∧ n ≤ 9223372036854775807) (hl : -9223372036854775808 ≤ l ∧ l ≤ 9223372036854775807) (w : World) :
    Calls Tryz.prog 5 #[.int .i64 n, .int .i64 l, .int .u64 t] w fun e w' => e = .returned (.int .u64 (boundC n l t)) ∧ w' = w := by
  obtain ⟨m, hm⟩ : ∃ m, m = max n 0 := ⟨_, rfl⟩
  have hm0 : 0 ≤ m := by omega
  have hm1 : m ≤ 9223372036854775807 := by omega
  have Hm := Lib.hid hm
  clear hm
  have Hu : Hid (InU m) := Lib.hid (by unfold InU; omega)
  have Hq : Hid (∀ k : Nat, (0 : Int) ≤ (k : Int) * m + max l 0) := Lib.hid (fun k => by have := Int.mul_nonneg (Int.natCast_nonneg k) hm0; omega)
  have H5 : Hid (((5 : Nat) : Int) * m = 5 * m) := rfl
  have TT : ∀ x, x = m → ∀ (k : Nat) (W : World), Calls Tryz.prog 8 #[.int .u64 (satU (k * m + max l 0)), .int .u64 x] W fun e w' => e = .returned (.int .u64 (satU (((k + 1 : Nat) : Int) * m + max l 0))) ∧ w' = W := by
    rintro x rfl k W
    have := ref_Add (satU (k * x + max l 0)) x (satU_in (Hq.out k)) Hu.out W
    rw [satU_add Hu.out] at this
    rw [mul_succ, show (k : Int) * x + x + max l 0 = k * x + max l 0 + x by omega]
    exact this
  have SS : ∀ y, y = max l 0 → satU (((0 : Nat) : Int) * m + max l 0) = y := by
    rintro y rfl
    unfold satU
    simp
    omega
  by_cases c1 : n < 0 <;> by_cases c2 : l < 0
  · have T := Lib.hid (TT 0 (by have := Hm.out; omega))
    have S0 := Lib.hid (SS 0 (by omega))
    clear TT SS
    go_enter Tryz.func5, Tryz.ntmps5
    go_wp2
    go_loop [8, 9] (fun s i => ∃ k : Nat, k ≤ 5 ∧ i = .int .i64 k ∧ s = .int .u64 (satU (k * m + max l 0))) (fun _ i => 5 - (intOf i).toNat)
    case atStart => exact ⟨0, by omega, rfl, by rw [S0.out]⟩
    case round =>
      obtain ⟨k, hk, rfl, rfl⟩ := hrel
      by_cases hlt : k < 5
      · go_wp2_with (go_at_call 8; (with_reducible refine (T.out k _).mono ?_); rintro e w' ⟨rfl, rfl⟩)
        go_round
        case rel => exact ⟨k + 1, by omega, by go_num, rfl⟩
        case measure => simp [intOf]; omega
      · obtain rfl : k = 5 := by omega
        generalize hs : satU (((5 : Nat) : Int) * m + max l 0) = s6 at *
        have Hs := Lib.hid hs
        clear hs
        by_cases c3 : t < s6
        all_goals
          go_wp2
          all_goals
            go_ret
            refine ⟨ret_int ?_, rfl⟩
            unfold boundC
            rw [← Hm.out, ← H5.out, Hs.out]
            omega
  · have T := Lib.hid (TT 0 (by have := Hm.out; omega))
    have S0 := Lib.hid (SS l (by omega))
    clear TT SS
    go_enter Tryz.func5, Tryz.ntmps5
    go_wp2
    go_loop [8, 9] (fun s i => ∃ k : Nat, k ≤ 5 ∧ i = .int .i64 k ∧ s = .int .u64 (satU (k * m + max l 0))) (fun _ i => 5 - (intOf i).toNat)
    case atStart => exact ⟨0, by omega, rfl, by rw [S0.out]⟩
    case round =>
      obtain ⟨k, hk, rfl, rfl⟩ := hrel
      by_cases hlt : k < 5
      · go_wp2_with (go_at_call 8; (with_reducible refine (T.out k _).mono ?_); rintro e w' ⟨rfl, rfl⟩)
        go_round
        case rel => exact ⟨k + 1, by omega, by go_num, rfl⟩
        case measure => simp [intOf]; omega
      · obtain rfl : k = 5 := by omega
        generalize hs : satU (((5 : Nat) : Int) * m + max l 0) = s6 at *
        have Hs := Lib.hid hs
        clear hs
        by_cases c3 : t < s6
        all_goals
          go_wp2
          all_goals
            go_ret
            refine ⟨ret_int ?_, rfl⟩
            unfold boundC
            rw [← Hm.out, ← H5.out, Hs.out]
            omega
  · have T := Lib.hid (TT n (by have := Hm.out; omega))
    have S0 := Lib.hid (SS 0 (by omega))
    clear TT SS
    go_enter Tryz.func5, Tryz.ntmps5
    go_wp2
    go_loop [8, 9] (fun s i => ∃ k : Nat, k ≤ 5 ∧ i = .int .i64 k ∧ s = .int .u64 (satU (k * m + max l 0))) (fun _ i => 5 - (intOf i).toNat)
    case atStart => exact ⟨0, by omega, rfl, by rw [S0.out]⟩
    case round =>
      obtain ⟨k, hk, rfl, rfl⟩ := hrel
      by_cases hlt : k < 5
      · go_wp2_with (go_at_call 8; (with_reducible refine (T.out k _).mono ?_); rintro e w' ⟨rfl, rfl⟩)
        go_round
        case rel => exact ⟨k + 1, by omega, by go_num, rfl⟩
        case measure => simp [intOf]; omega
      · obtain rfl : k = 5 := by omega
        generalize hs : satU (((5 : Nat) : Int) * m + max l 0) = s6 at *
        have Hs := Lib.hid hs
        clear hs
        by_cases c3 : t < s6
        all_goals
          go_wp2
          all_goals
            go_ret
            refine ⟨ret_int ?_, rfl⟩
            unfold boundC
            rw [← Hm.out, ← H5.out, Hs.out]
            omega
  · have T := Lib.hid (TT n (by have := Hm.out; omega))
    have S0 := Lib.hid (SS l (by omega))
    clear TT SS
    go_enter Tryz.func5, Tryz.ntmps5
    go_wp2
    go_loop [8, 9] (fun s i => ∃ k : Nat, k ≤ 5 ∧ i = .int .i64 k ∧ s = .int .u64 (satU (k * m + max l 0))) (fun _ i => 5 - (intOf i).toNat)
    case atStart => exact ⟨0, by omega, rfl, by rw [S0.out]⟩
    case round =>
      obtain ⟨k, hk, rfl, rfl⟩ := hrel
      by_cases hlt : k < 5
      · go_wp2_with (go_at_call 8; (with_reducible refine (T.out k _).mono ?_); rintro e w' ⟨rfl, rfl⟩)
        go_round
        case rel => exact ⟨k + 1, by omega, by go_num, rfl⟩
        case measure => simp [intOf]; omega
      · obtain rfl : k = 5 := by omega
        generalize hs : satU (((5 : Nat) : Int) * m + max l 0) = s6 at *
        have Hs := Lib.hid hs
        clear hs
        by_cases c3 : t < s6
        all_goals
          go_wp2
          all_goals
            go_ret
            refine ⟨ret_int ?_, rfl⟩
            unfold boundC
            rw [← Hm.out, ← H5.out, Hs.out]
            omega
end Go.Proofs.Lk
