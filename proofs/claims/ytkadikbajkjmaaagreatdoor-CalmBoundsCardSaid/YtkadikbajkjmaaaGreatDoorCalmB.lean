/- calm's awake and CalmBounds return true. Conditions: the numbers are those of their kinds. -/
import Derived.Test.YtkadikbajkjmaaaGreatDoorBound
namespace Go.Proofs.Lk
open Go Go.RowKit

theorem SW.start (w : World) : SW w emp w := ⟨rfl, rfl, rfl, Nat.le_refl _, fun _ => none, ⟨(fun _ _ h => (by cases h)), fun _ => rfl⟩⟩

set_option maxRecDepth 100000 in
set_option maxHeartbeats 2000000 in
theorem awake30 (w : World) : Calls Tryz.prog 6 #[] w fun e w' => e = .returned (.bool true) ∧ Below w.heap.size w w' := by
  have N := Lib.hid (sched_New (F := emp) ⟨6, 10, 8, 2, 5, 4, 60⟩ (by decide) (SW.start w))
  have B1 : Hid (∀ W, Calls Tryz.prog 4 #[.int .i64 3, .int .i64 2, .int .u64 600] W fun e w' => e = .returned (.int .u64 17) ∧ w' = W) := Lib.hid (fun W => calm_Bound 3 2 600 (by decide) (by decide) (by unfold InU; decide) W)
  have B2 : Hid (∀ W, Calls Tryz.prog 4 #[.int .i64 3, .int .i64 2, .int .u64 9] W fun e w' => e = .returned (.int .u64 9) ∧ w' = W) := Lib.hid (fun W => calm_Bound 3 2 9 (by decide) (by decide) (by unfold InU; decide) W)
  go_enter Tryz.func6, Tryz.ntmps6
  go_wp2_with fail
  refine N.out.mono ?_
  rintro e w1 ⟨s, ck, po, qu, ca, ti, gr, si, sh, bo, rfl, h, hb⟩
  have h17 := SW.cell h 17
  have h18 := SW.cell h 18
  have hlt := SW.lt h
  have HB := Lib.hid hb
  clear h hb
  simp [schedCells] at h17 h18
  go_wp2_with fail
  refine (round_empty s w1 h17 h18).mono ?_
  rintro e w2 ⟨b, rfl, r0, r4, r18, hb⟩
  have k17 := (hb.cell (p := ⟨s, 17, none⟩) hlt).trans h17
  have HB2 := Lib.hid (HB.out.trans (hb.mono HB.out.size))
  clear hb
  go_wp2_with (first
    | ((with_reducible refine (B1.out _).mono ?_); rintro e w' ⟨rfl, rfl⟩)
    | ((with_reducible refine (B2.out _).mono ?_); rintro e w' ⟨rfl, rfl⟩)
    | (go_at_call 11; refine (rest_empty s _ k17).mono ?_; rintro e w' ⟨rfl, rfl⟩)
    | (go_at_call 12; refine (calm_empty s _ k17).mono ?_; rintro e w' ⟨rfl, rfl⟩))
  go_ret
  exact ⟨rfl, HB2.out⟩

theorem bound_le (n l t : Int) : boundC n l t ≤ t := by unfold boundC; omega

set_option maxRecDepth 100000 in
set_option maxHeartbeats 2000000 in
theorem calmBounds_walk (n l t : Int) (hn : -9223372036854775808 ≤ n ∧ n ≤ 9223372036854775807) (hl : -9223372036854775808 ≤ l ∧ l ≤ 9223372036854775807) (ht : InU t) (w : World) :
    Calls Tryz.prog 3 #[.int .i64 n, .int .i64 l, .int .u64 t] w fun e w' => e = .returned (.bool true) ∧ Below w.heap.size w w' := by
  obtain ⟨x, hx⟩ : ∃ x, x = boundC n l t := ⟨_, rfl⟩
  have hxt : x ≤ t := by rw [hx]; exact bound_le n l t
  have B : Hid (∀ W, Calls Tryz.prog 4 #[.int .i64 n, .int .i64 l, .int .u64 t] W fun e w' => e = .returned (.int .u64 x) ∧ w' = W) := Lib.hid (fun W => hx ▸ calm_Bound n l t hn hl ht W)
  have R : Hid (∀ W, Calls Tryz.prog 5 #[.int .i64 n, .int .i64 l, .int .u64 t] W fun e w' => e = .returned (.int .u64 x) ∧ w' = W) := Lib.hid (fun W => hx ▸ ref_Bound n l t hn hl W)
  clear hx hn hl ht
  go_enter Tryz.func3, Tryz.ntmps3
  go_wp2_with (first
    | (go_at_call 4; (with_reducible refine (B.out _).mono ?_); rintro e w' ⟨rfl, rfl⟩)
    | (go_at_call 5; (with_reducible refine (R.out _).mono ?_); rintro e w' ⟨rfl, rfl⟩)
    | (go_at_call 6; refine (awake30 _).mono ?_; rintro e w' ⟨rfl, hb⟩))
  go_ret
  exact ⟨rfl, hb⟩
end Go.Proofs.Lk
