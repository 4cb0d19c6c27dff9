/- What packages tick and rank compute. Conditions: the numbers are those of their kinds. -/
import Derived.Test.YtkadikbajkjmaaaGreatDoorMod
import Derived.Test.YtkadikbajkjmaaaGreatDoorProg
import Derived.Deep.QuietTactic
import Derived.BigQuiet
import Derived.Deep.RegionHeld3
import Derived.Deep.DrawnRows
namespace Go.Proofs.Lk
open Go Go.RowKit
attribute [local go_sem ↓] Go.wp_at_zero Go.wp_at_succ

theorem ret_int {k : IntKind} {a b : Int} (h : a = b) : Ending.returned (.int k a) = .returned (.int k b) := by rw [h]
theorem ret_bool {a b : Bool} (h : a = b) : Ending.returned (.bool a) = .returned (.bool b) := by rw [h]
theorem bcell {W w1 : World} (hb : Below W.heap.size W w1) : (∀ b o, b < W.heap.size → w1.cell? ⟨b, o, none⟩ = W.cell? ⟨b, o, none⟩) ∧ (∀ b o, b < W.heap.size → w1.frozen? ⟨b, o, none⟩ = W.frozen? ⟨b, o, none⟩) :=
  ⟨fun b o h => hb.cell (p := ⟨b, o, none⟩) h, fun b o h => hb.frozen (p := ⟨b, o, none⟩) h⟩

theorem Below.drewN {B : Nat} {a w : World} (h : Below B a w) : ∀ n, Below B a (w.drewN n) := fun _ => ⟨h.os, h.tape, h.output, h.size, h.block⟩

set_option maxRecDepth 100000 in
theorem tick_Add (a b : Int) (ha : InU a) (hb : InU b) (w : World) :
    Calls Tryz.prog 7 #[.int .u64 a, .int .u64 b] w fun e w' => e = .returned (.int .u64 (tAdd a b)) ∧ w' = w := by
  unfold InU at ha hb
  by_cases h : b > 18446744073709551615 - a
  all_goals
    go_enter Tryz.func7, Tryz.ntmps7
    go_wp2
    go_ret
    exact ⟨ret_int (by unfold tAdd; split <;> omega), rfl⟩

set_option maxRecDepth 100000 in
theorem tick_Left (a b : Int) (ha : InU a) (hb : InU b) (w : World) :
    Calls Tryz.prog 313 #[.int .u64 a, .int .u64 b] w fun e w' => e = .returned (.int .u64 (tLeft a b)) ∧ w' = w := by
  unfold InU at ha hb
  by_cases h : b ≤ a
  all_goals
    go_enter Tryz.func313, Tryz.ntmps313
    go_wp2
    go_ret
    exact ⟨ret_int (by unfold tLeft; split <;> omega), rfl⟩

set_option maxRecDepth 100000 in
theorem rank_cut (c : Int) (w : World) :
    Calls Tryz.prog 364 #[.int .i64 c] w fun e w' => e = .returned (.int .i64 (cutC c)) ∧ w' = w := by
  by_cases h1 : c < 1 <;> by_cases h2 : 6 < c
  · omega
  all_goals
    go_enter Tryz.func364, Tryz.ntmps364
    go_wp2
    all_goals
      go_ret
      refine ⟨ret_int ?_, rfl⟩
      unfold cutC
      omega

theorem levelN_of (c x ag q : Int) (hg : 1 ≤ ag) (hq : q = x / ag) : levelN c x ag = max 1 (cutC c - min q 6) := by
  unfold levelN
  rw [show max ag 1 = ag by omega, hq]

set_option maxRecDepth 100000 in
set_option maxHeartbeats 1000000 in
theorem rank_Level (c x ag : Int) (hx : InU x) (hg1 : 1 ≤ ag) (hg2 : ag ≤ 1000) (w : World) :
    Calls Tryz.prog 312 #[.int .i64 c, .int .u64 x, .int .u64 ag] w fun e w' => e = .returned (.int .i64 (levelN c x ag)) ∧ ∃ q, w' = w.drewN q := by
  unfold InU at hx
  obtain ⟨hc1, hc2⟩ := cutC_in c
  have hq : 0 ≤ x / ag := Int.ediv_nonneg hx.1 (by omega)
  have hq2 : x / ag ≤ x := Int.ediv_le_self _ hx.1
  have HL := Lib.hid (levelN_of c x ag (x / ag) hg1 rfl)
  by_cases h6 : 6 < x / ag <;> by_cases h7 : 1 < cutC c - x / ag
  · omega
  all_goals
    go_enter Tryz.func312, Tryz.ntmps312
    go_wp2
    go_quiet ((go_at_call 364; exact Calls.quiet_of_same (rank_cut _ _)))
    go_wp2
    go_ret
    refine ⟨ret_int ?_, _, rfl⟩
    rw [HL.out]
    omega

set_option maxRecDepth 100000 in
set_option maxHeartbeats 1000000 in
theorem rank_level (i : Item) (now ag : Int) (hs : InU i.since) (hn : InU now) (hg1 : 1 ≤ ag) (hg2 : ag ≤ 1000) (w : World) :
    Calls Tryz.prog 242 #[.agg #[.int .i64 i.id, .int .i64 i.cls, .int .u64 i.since, .string i.key, .int .i64 i.pre], .int .u64 now, .int .u64 ag] w fun e w' => e = .returned (.int .i64 (levelI i now ag)) ∧ Below w.heap.size w w' := by
  obtain ⟨i0, i1, i2, i3, i4⟩ := i
  have Hl := Lib.hid (tLeft_in hs hn)
  have Hs := Lib.hid hs
  have Hn := Lib.hid hn
  clear hs hn
  dsimp only at *
  go_enter Tryz.func242, Tryz.ntmps242
  go_wp2
  go_quiet ((first | (go_at_call 313; exact Calls.quiet_of_same (tick_Left _ _ Hs.out Hn.out _)) | (go_at_call 312; exact Calls.quiet_of (rank_Level _ _ _ Hl.out hg1 hg2 _))))
  go_wp2
  go_ret
  exact ⟨rfl, Below.drewN ((Below.refl _ _).alloc (Nat.le_refl _) _) _⟩

set_option maxRecDepth 100000 in
theorem u64_load (c k : Nat) (t : Int) (w : World) (hc : w.cell? ⟨c, k, none⟩ = some (.int .u64 t)) :
    Calls Tryz.prog 154 #[.pointer (some ⟨c, k, none⟩)] w fun e w' => e = .returned (.int .u64 t) ∧ w' = w := by
  have hx := run_call_load (P := Tryz.prog) Tryz.func236 (by kernel_rfl) (by kernel_rfl) (by kernel_rfl) .u64 (by kernel_rfl) hc
  go_enter Tryz.func154, Tryz.ntmps154
  go_wp2
  go_ret
  exact ⟨rfl, rfl⟩

set_option maxRecDepth 100000 in
theorem u64_store (c k : Nat) (t u : Int) (w : World) (hc : w.cell? ⟨c, k, none⟩ = some (.int .u64 t)) (hf : w.frozen? ⟨c, k, none⟩ = false) :
    Calls Tryz.prog 28 #[.pointer (some ⟨c, k, none⟩), .int .u64 u] w fun e w' => e = .returned (.tuple #[]) ∧ w' = w.setCell ⟨c, k, none⟩ (.int .u64 u) := by
  have hx := run_call_store (P := Tryz.prog) Tryz.func53 (by kernel_rfl) (by kernel_rfl) (by kernel_rfl) (by kernel_rfl) (k := .u64) (y := u) hc hf
  go_enter Tryz.func28, Tryz.ntmps28
  go_wp2
  go_end0
  exact ⟨rfl, rfl⟩

set_option maxRecDepth 100000 in
theorem i64_load (c k : Nat) (t : Int) (w : World) (hc : w.cell? ⟨c, k, none⟩ = some (.int .i64 t)) :
    Calls Tryz.prog 54 #[.pointer (some ⟨c, k, none⟩)] w fun e w' => e = .returned (.int .i64 t) ∧ w' = w := by
  have hx := run_call_load (P := Tryz.prog) Tryz.func104 (by kernel_rfl) (by kernel_rfl) (by kernel_rfl) .i64 (by kernel_rfl) hc
  go_enter Tryz.func54, Tryz.ntmps54
  go_wp2
  go_ret
  exact ⟨rfl, rfl⟩

set_option maxRecDepth 100000 in
theorem i64_store (c k : Nat) (t u : Int) (w : World) (hc : w.cell? ⟨c, k, none⟩ = some (.int .i64 t)) (hf : w.frozen? ⟨c, k, none⟩ = false) :
    Calls Tryz.prog 135 #[.pointer (some ⟨c, k, none⟩), .int .i64 u] w fun e w' => e = .returned (.tuple #[]) ∧ w' = w.setCell ⟨c, k, none⟩ (.int .i64 u) := by
  have hx := run_call_store (P := Tryz.prog) Tryz.func216 (by kernel_rfl) (by kernel_rfl) (by kernel_rfl) (by kernel_rfl) (k := .i64) (y := u) hc hf
  go_enter Tryz.func135, Tryz.ntmps135
  go_wp2
  go_end0
  exact ⟨rfl, rfl⟩

set_option maxRecDepth 100000 in
theorem i64_add (c k : Nat) (t : Int) (w : World) (h0 : 0 ≤ t) (h1 : t ≤ 1000000000) (hc : w.cell? ⟨c, k, none⟩ = some (.int .i64 t)) (hf : w.frozen? ⟨c, k, none⟩ = false) :
    Calls Tryz.prog 38 #[.pointer (some ⟨c, k, none⟩), .int .i64 1] w fun e w' => e = .returned (.int .i64 (t + 1)) ∧ w' = w.setCell ⟨c, k, none⟩ (.int .i64 (t + 1)) := by
  have hs : (Op.intArith .add .i64 t 1).run Tryz.prog w = .ok (.int .i64 (t + 1)) w := by
    simp [Op.intArith, IntWalk.i64_in (t + 1) (by omega)]
  have hx := run_call_add (P := Tryz.prog) Tryz.func62 (by kernel_rfl) (by kernel_rfl) (by kernel_rfl) .i64 (by kernel_rfl) hc hf hs
  go_enter Tryz.func38, Tryz.ntmps38
  go_wp2
  go_ret
  exact ⟨rfl, rfl⟩

/-! ### The clock -/
def ClockAt (c : Nat) (t : Int) : HP := blk c (.cells #[.int .u64 t] 90 (0, 0))

set_option maxRecDepth 100000 in
theorem clock_Now {E w : World} {F : HP} (c : Nat) (t : Int) (h : SW E (ClockAt c t * F) w) :
    Calls Tryz.prog 84 #[.pointer (some ⟨c, 0, none⟩)] w fun e w' => e = .returned (.int .u64 t) ∧ w' = w := by
  have hc := SW.cell h 0
  have H := Lib.hid h
  clear h
  simp at hc
  go_enter Tryz.func84, Tryz.ntmps84
  go_wp2_with (go_at_call 154; refine (u64_load _ _ _ _ hc).mono ?_; rintro e w' ⟨rfl, rfl⟩)
  go_ret
  exact ⟨rfl, rfl⟩

set_option maxRecDepth 100000 in
theorem clock_Step {E w : World} {F : HP} (c : Nat) (t n : Int) (ht : InU t) (hn : InU n) (h : SW E (ClockAt c t * F) w) :
    Calls Tryz.prog 80 #[.pointer (some ⟨c, 0, none⟩), .int .u64 n] w fun e w' => e = .returned (.int .u64 (tAdd t n)) ∧ SW E (ClockAt c (tAdd t n) * F) w' := by
  have hc := SW.cell h 0
  have hf := SW.frozen h 0
  have H := Lib.hid h
  have Ht := Lib.hid ht
  have Hn := Lib.hid hn
  clear h ht hn
  simp at hc
  go_enter Tryz.func80, Tryz.ntmps80
  go_wp2_with (first
    | (go_at_call 154; refine (u64_load _ _ _ _ hc).mono ?_; rintro e w' ⟨rfl, rfl⟩)
    | (go_at_call 7; refine (tick_Add _ _ Ht.out Hn.out _).mono ?_; rintro e w' ⟨rfl, rfl⟩)
    | (go_at_call 28; refine (u64_store _ _ _ _ _ hc hf).mono ?_; rintro e w' ⟨rfl, rfl⟩))
  go_ret
  exact ⟨rfl, SW.set (k := 0) (c := #[.int .u64 t]) H.out (.int .u64 (tAdd t n))⟩

set_option maxRecDepth 100000 in
theorem clock_New {E w : World} {F : HP} (h : SW E F w) :
    Calls Tryz.prog 14 #[.int .u64 0] w fun e w' => ∃ c, e = .returned (.pointer (some ⟨c, 0, none⟩)) ∧ SW E (ClockAt c 0 * F) w' := by
  have H := Lib.hid h
  clear h
  go_enter Tryz.func14, Tryz.ntmps14
  go_wp2_with (go_at_call 28; refine (u64_store _ _ 0 _ _ (by simp) (by simp)).mono ?_; rintro e w' ⟨rfl, rfl⟩)
  go_ret
  refine ⟨_, rfl, ?_⟩
  exact H.out.alloc _
end Go.Proofs.Lk
