/- What the constructors make. Conditions: none. -/
import Derived.Test.YtkadikbajkjmaaaGreatDoorRep
namespace Go.Proofs.Lk
open Go Go.RowKit
attribute [local go_sem ↓] Go.wp_at_zero Go.wp_at_succ

set_option maxRecDepth 100000 in
theorem clock_New' {E w : World} {F : HP} (h : SW E F w) :
    Calls Tryz.prog 14 #[.int .u64 0] w fun e w' => ∃ c, e = .returned (.pointer (some ⟨c, 0, none⟩)) ∧ SW E (ClockAt c 0 * F) w' ∧ Below w.heap.size w w' := by
  have H := Lib.hid h
  clear h
  go_enter Tryz.func14, Tryz.ntmps14
  go_wp2_with (go_at_call 28; refine (u64_store _ _ 0 _ _ (by simp) (by simp)).mono ?_; rintro e w' ⟨rfl, rfl⟩)
  go_ret
  exact ⟨_, rfl, H.out.alloc _, (Below.refl _ _).alloc (Nat.le_refl _) _⟩

set_option maxRecDepth 100000 in
theorem hosts_New {E w : World} {F : HP} (h : SW E F w) :
    Calls Tryz.prog 29 #[.int .i64 32] w fun e w' => ∃ c, e = .returned (.pointer (some ⟨c, 0, none⟩)) ∧ SW E (HostsAt c [] 32 * F) w' ∧ Below w.heap.size w w' := by
  have H := Lib.hid h
  clear h
  go_enter Tryz.func29, Tryz.ntmps29
  go_wp2
  go_ret
  refine ⟨_, rfl, ?_, (Below.refl _ _).alloc (Nat.le_refl _) _⟩
  exact SW.ex_intro (none, 0) ((((H.out.alloc _).perm (star_comm _ _)).rowOf_nil 396).perm (by ac_rfl))

set_option maxRecDepth 100000 in
theorem cache_New {E w : World} {F : HP} (n : Int) (h1 : 1 ≤ n) (h2 : n ≤ 64) (h : SW E F w) :
    Calls Tryz.prog 17 #[.int .i64 n] w fun e w' => ∃ c, e = .returned (.pointer (some ⟨c, 0, none⟩)) ∧ SW E (CacheAt c [] n * F) w' ∧ Below w.heap.size w w' := by
  have H := Lib.hid h
  clear h
  obtain rfl | hn : n = 1 ∨ 1 < n := by omega
  all_goals
    go_enter Tryz.func17, Tryz.ntmps17
    go_wp2
    go_ret
    refine ⟨_, rfl, ?_, (Below.refl _ _).alloc (Nat.le_refl _) _⟩
    exact SW.ex_intro (none, 0) ((((H.out.alloc _).perm (star_comm _ _)).rowOf_nil 297).perm (by ac_rfl))

set_option maxRecDepth 100000 in
theorem timer_New {E w : World} {F : HP} (h : SW E F w) :
    Calls Tryz.prog 18 #[.int .i64 256] w fun e w' => ∃ c, e = .returned (.pointer (some ⟨c, 0, none⟩)) ∧ SW E (WheelAt c [] 256 0 * F) w' ∧ Below w.heap.size w w' := by
  have H := Lib.hid h
  clear h
  go_enter Tryz.func18, Tryz.ntmps18
  go_wp2
  go_ret
  refine ⟨_, rfl, ?_, (Below.refl _ _).alloc (Nat.le_refl _) _⟩
  exact SW.ex_intro (none, 0) ((((H.out.alloc _).perm (star_comm _ _)).rowOf_nil 269).perm (by ac_rfl))

set_option maxRecDepth 100000 in
theorem admit_New {E w : World} {F : HP} (h : SW E F w) :
    Calls Tryz.prog 22 #[] w fun e w' => ∃ c, e = .returned (.pointer (some ⟨c, 0, none⟩)) ∧ SW E (BookAt c [] * F) w' ∧ Below w.heap.size w w' := by
  have H := Lib.hid h
  clear h
  go_enter Tryz.func22, Tryz.ntmps22
  go_wp2
  go_ret
  refine ⟨_, rfl, ?_, (Below.refl _ _).alloc (Nat.le_refl _) _⟩
  exact SW.ex_intro (none, 0) ((((H.out.alloc _).perm (star_comm _ _)).rowOf_nil 252).perm (by ac_rfl))

set_option maxRecDepth 100000 in
theorem group_New {E w : World} {F : HP} (h : SW E F w) :
    Calls Tryz.prog 19 #[] w fun e w' => ∃ c, e = .returned (.pointer (some ⟨c, 0, none⟩)) ∧ SW E (SetAt c [] * F) w' ∧ Below w.heap.size w w' := by
  have H := Lib.hid h
  clear h
  go_enter Tryz.func19, Tryz.ntmps19
  go_wp2
  go_ret
  refine ⟨_, rfl, ?_, (Below.refl _ _).alloc (Nat.le_refl _) _⟩
  have h1 := (((H.out.alloc (.cells #[.slice none 0 0] 108)).perm (star_comm _ _)).rowOf_nil (α := GOneV) 237)
  exact SW.ex_intro ((none, 0), []) ((SW.pur_intro rfl (h1.perm (by rw [List.map_nil, big_nil, star_emp]; ac_rfl))).perm (star_assoc _ _ _).symm)

set_option maxRecDepth 100000 in
theorem signal_New {E w : World} {F : HP} (h : SW E F w) :
    Calls Tryz.prog 20 #[] w fun e w' => ∃ c, e = .returned (.pointer (some ⟨c, 0, none⟩)) ∧ SW E (TreeAt c [] * F) w' ∧ Below w.heap.size w w' := by
  have H := Lib.hid h
  clear h
  go_enter Tryz.func20, Tryz.ntmps20
  go_wp2
  go_ret
  refine ⟨_, rfl, ?_, (Below.refl _ _).alloc (Nat.le_refl _) _⟩
  have h1 := (((H.out.alloc (.cells #[.slice none 0 0] 111)).perm (star_comm _ _)).rowOf_nil (α := GSigV) 180)
  exact SW.ex_intro ((none, 0), []) ((SW.pur_intro rfl (h1.perm (by rw [List.map_nil, big_nil, star_emp]; ac_rfl))).perm (star_assoc _ _ _).symm)

set_option maxRecDepth 100000 in
theorem share_New {E w : World} {F : HP} (h : SW E F w) :
    Calls Tryz.prog 21 #[] w fun e w' => ∃ c, e = .returned (.pointer (some ⟨c, 0, none⟩)) ∧ SW E (TableAt c [] 0 * F) w' ∧ Below w.heap.size w w' := by
  have H := Lib.hid h
  clear h
  go_enter Tryz.func21, Tryz.ntmps21
  go_wp2
  go_ret
  refine ⟨_, rfl, ?_, (Below.refl _ _).alloc (Nat.le_refl _) _⟩
  have h1 := (((H.out.alloc (.cells #[.slice none 0 0, .int .i64 0] 114)).perm (star_comm _ _)).rowOf_nil (α := SOneV) 354)
  exact SW.ex_intro ((none, 0), []) ((SW.pur_intro rfl (h1.perm (by rw [List.map_nil, big_nil, star_emp]; ac_rfl))).perm (star_assoc _ _ _).symm)

set_option maxRecDepth 100000 in
theorem pool_New {E w : World} {F : HP} (n k : Int) (h1 : 1 ≤ n) (h2 : n ≤ 32) (h : SW E F w) :
    Calls Tryz.prog 15 #[.int .i64 n, .int .u64 k] w fun e w' => ∃ c, e = .returned (.pointer (some ⟨c, 0, none⟩)) ∧ SW E (PoolAt c ⟨[], [], n, k, [], 32, 0⟩ * F) w' ∧ Below w.heap.size w w' := by
  have H := Lib.hid h
  clear h
  obtain rfl | hn : n = 1 ∨ 1 < n := by omega
  all_goals
    go_enter Tryz.func15, Tryz.ntmps15
    go_wp2_with (go_at_call 29; refine (hosts_New H.out).mono ?_; rintro e w1 ⟨c, rfl, h1, hb⟩; have H1 := Lib.hid h1; have HB := Lib.hid hb; clear h1 hb)
    go_ret
    refine ⟨_, rfl, ?_, HB.out.trans ((Below.refl _ _).alloc HB.out.size _)⟩
    first | exact SW.ex_intro ((none, 0), (none, 0), c) ((((H1.out.alloc (.cells #[.slice none 0 0, .slice none 0 0, .int .i64 n, .int .u64 k, .pointer (some ⟨c, 0, none⟩), .int .i64 0] 96)).rowOf_nil (α := PConn) 273).rowOf_nil (α := PConn) 273).perm (by ac_rfl))
          | exact SW.ex_intro ((none, 0), (none, 0), c) ((((H1.out.alloc (.cells #[.slice none 0 0, .slice none 0 0, .int .i64 1, .int .u64 k, .pointer (some ⟨c, 0, none⟩), .int .i64 0] 96)).rowOf_nil (α := PConn) 273).rowOf_nil (α := PConn) 273).perm (by ac_rfl))

set_option maxRecDepth 100000 in
theorem queue_New' {E w : World} {F : HP} (ag : Int) (h : SW E F w) :
    Calls Tryz.prog 16 #[.int .u64 ag] w fun e w' => ∃ q, e = .returned (.pointer (some ⟨q, 0, none⟩)) ∧ SW E (QueueAt q [] ag * F) w' ∧ Below w.heap.size w w' := by
  have H := Lib.hid h
  clear h
  go_enter Tryz.func16, Tryz.ntmps16
  go_wp2
  go_ret
  exact ⟨_, rfl, queue_shut (((H.out.alloc _).perm (star_comm _ _)).rowOf_nil 201 |>.perm (by ac_rfl)), (Below.refl _ _).alloc (Nat.le_refl _) _⟩
end Go.Proofs.Lk
