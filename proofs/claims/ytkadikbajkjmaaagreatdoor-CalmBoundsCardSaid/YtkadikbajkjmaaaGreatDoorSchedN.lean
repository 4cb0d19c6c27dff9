/- sched.New. Conditions: none. -/
import Derived.Test.YtkadikbajkjmaaaGreatDoorCheck
namespace Go.Proofs.Lk
open Go Go.RowKit
attribute [local go_sem ↓] Go.wp_at_zero Go.wp_at_succ

/-- What a new scheduler's own block holds. -/
def schedCells (c : Cfg) (ck po qu ca ti gr si sh bo : Nat) (made : Int) (all pres log : Value) (acts last : Int) : List Value :=
  [.int .i64 c.total, .int .u64 c.aging, .int .i64 c.high, .int .i64 c.low, .int .u64 c.idle, .int .i64 c.cache, .int .u64 c.timeout,
   .pointer (some ⟨ck, 0, none⟩), .pointer (some ⟨po, 0, none⟩), .pointer (some ⟨qu, 0, none⟩), .pointer (some ⟨ca, 0, none⟩), .pointer (some ⟨ti, 0, none⟩), .pointer (some ⟨gr, 0, none⟩), .pointer (some ⟨si, 0, none⟩), .pointer (some ⟨sh, 0, none⟩), .pointer (some ⟨bo, 0, none⟩),
   .int .i64 made, all, pres, log, .int .i64 acts, .int .i64 last]

set_option maxRecDepth 100000 in
set_option maxHeartbeats 4000000 in
theorem sched_New_bad {w : World} (c : Cfg) (hc : checkC c = false) :
    Calls Tryz.prog 9 #[.agg #[.int .i64 c.total, .int .u64 c.aging, .int .i64 c.high, .int .i64 c.low, .int .u64 c.idle, .int .i64 c.cache, .int .u64 c.timeout]] w fun e w' => e = .returned (.tuple #[.pointer none, .int .i64 2]) ∧ Below w.heap.size w w' := by
  have CK := Lib.hid (fun W => sched_Check c W)
  rw [hc] at CK
  clear hc
  obtain ⟨c0, c1, c2, c3, c4, c5, c6⟩ := c
  dsimp only at CK ⊢
  go_enter Tryz.func9, Tryz.ntmps9
  go_wp2_with fail
  refine (CK.out _).mono ?_
  rintro e w1 ⟨rfl, hb⟩
  have HB := Lib.hid hb
  clear hb
  go_wp2
  go_ret2
  exact ⟨rfl, ((Below.refl _ _).alloc (Nat.le_refl _) _).trans (HB.out.mono (by simp))⟩

set_option maxRecDepth 100000 in
set_option maxHeartbeats 4000000 in
theorem sched_New {E w : World} {F : HP} (c : Cfg) (hc : checkC c = true) (h : SW E F w) :
    Calls Tryz.prog 9 #[.agg #[.int .i64 c.total, .int .u64 c.aging, .int .i64 c.high, .int .i64 c.low, .int .u64 c.idle, .int .i64 c.cache, .int .u64 c.timeout]] w fun e w' =>
      ∃ s ck po qu ca ti gr si sh bo, e = .returned (.tuple #[.pointer (some ⟨s, 0, none⟩), .int .i64 0]) ∧
        SW E (blk s (.cells (schedCells c ck po qu ca ti gr si sh bo 0 (.slice none 0 0) (.slice none 0 0) (.slice none 0 0) 0 0).toArray 72 (0, 0)) * (ClockAt ck 0 * (PoolAt po ⟨[], [], c.total, c.idle, [], 32, 0⟩ * (QueueAt qu [] c.aging * (CacheAt ca [] c.cache * (WheelAt ti [] 256 0 * (SetAt gr [] * (TreeAt si [] * (TableAt sh [] 0 * (BookAt bo [] * F)))))))))) w' ∧ Below w.heap.size w w' := by
  have CK := Lib.hid (fun W => sched_Check c W)
  rw [hc] at CK
  have hcc := hc
  unfold checkC at hcc
  obtain ⟨k1, k2, _, _, _, _, k3, k4, _⟩ := of_decide_eq_true hcc
  clear hc hcc
  obtain ⟨c0, c1, c2, c3, c4, c5, c6⟩ := c
  dsimp only at CK k1 k2 k3 k4 ⊢
  have h1 := h.alloc (.cells #[.int .i64 c0, .int .u64 c1, .int .i64 c2, .int .i64 c3, .int .u64 c4, .int .i64 c5, .int .u64 c6] 32)
  have H1 := Lib.hid h1
  clear h h1
  go_enter Tryz.func9, Tryz.ntmps9
  go_wp2_with fail
  refine (CK.out _).mono ?_
  rintro e w1 ⟨rfl, hb⟩
  have h2 := H1.out.below hb
  have HB := Lib.hid (((Below.refl w.heap.size w).alloc (Nat.le_refl _) _).trans (hb.mono (by simp)))
  have hc := SW.cell h2
  have c0' := hc 0
  have c1' := hc 1
  have c2' := hc 2
  have c3' := hc 3
  have c4' := hc 4
  have c5' := hc 5
  have c6' := hc 6
  have hlt := SW.lt h2
  have h2d : SW E _ w1.drew := h2.drew
  have hbd : Below w.heap.size w w1.drew := HB.out.drew
  clear hc hb h2
  simp at c0' c1' c2' c3' c4' c5' c6'
  go_wp2
  go_region_held3 (fun W => W.cell? ⟨w.heap.size, 0, none⟩ = some (.int .i64 c0) ∧ W.cell? ⟨w.heap.size, 1, none⟩ = some (.int .u64 c1) ∧ W.cell? ⟨w.heap.size, 2, none⟩ = some (.int .i64 c2) ∧ W.cell? ⟨w.heap.size, 3, none⟩ = some (.int .i64 c3) ∧ W.cell? ⟨w.heap.size, 4, none⟩ = some (.int .u64 c4) ∧ W.cell? ⟨w.heap.size, 5, none⟩ = some (.int .i64 c5) ∧ W.cell? ⟨w.heap.size, 6, none⟩ = some (.int .u64 c6))
    (go_keep) ((first
     | (go_at_call 14; (with_reducible refine (clock_New' h2d).mono ?_); rintro e w2 ⟨ck, rfl, h3, hb⟩; have f0_0 := (hb.cell (p := ⟨w.heap.size, 0, none⟩) hlt).trans c0'; have f0_1 := (hb.cell (p := ⟨w.heap.size, 1, none⟩) hlt).trans c1'; have f0_2 := (hb.cell (p := ⟨w.heap.size, 2, none⟩) hlt).trans c2'; have f0_3 := (hb.cell (p := ⟨w.heap.size, 3, none⟩) hlt).trans c3'; have f0_4 := (hb.cell (p := ⟨w.heap.size, 4, none⟩) hlt).trans c4'; have f0_5 := (hb.cell (p := ⟨w.heap.size, 5, none⟩) hlt).trans c5'; have f0_6 := (hb.cell (p := ⟨w.heap.size, 6, none⟩) hlt).trans c6'; have hl2 : w.heap.size < w2.heap.size := Nat.lt_of_lt_of_le hlt hb.size; have hbd3 := hbd.trans (hb.mono (Nat.le_of_lt hlt)); clear hb)
     | (go_at_call 15; (with_reducible refine (pool_New _ _ k1 k2 h3).mono ?_); rintro e w3 ⟨po, rfl, h4, hb⟩; have f1_0 := (hb.cell (p := ⟨w.heap.size, 0, none⟩) hl2).trans f0_0; have f1_1 := (hb.cell (p := ⟨w.heap.size, 1, none⟩) hl2).trans f0_1; have f1_2 := (hb.cell (p := ⟨w.heap.size, 2, none⟩) hl2).trans f0_2; have f1_3 := (hb.cell (p := ⟨w.heap.size, 3, none⟩) hl2).trans f0_3; have f1_4 := (hb.cell (p := ⟨w.heap.size, 4, none⟩) hl2).trans f0_4; have f1_5 := (hb.cell (p := ⟨w.heap.size, 5, none⟩) hl2).trans f0_5; have f1_6 := (hb.cell (p := ⟨w.heap.size, 6, none⟩) hl2).trans f0_6; have hl3 : w.heap.size < w3.heap.size := Nat.lt_of_lt_of_le hl2 hb.size; have hbd4 := hbd3.trans (hb.mono (Nat.le_of_lt hl2)); clear hb)
     | (go_at_call 16; (with_reducible refine (queue_New' _ h4).mono ?_); rintro e w4 ⟨qu, rfl, h5, hb⟩; have f2_0 := (hb.cell (p := ⟨w.heap.size, 0, none⟩) hl3).trans f1_0; have f2_1 := (hb.cell (p := ⟨w.heap.size, 1, none⟩) hl3).trans f1_1; have f2_2 := (hb.cell (p := ⟨w.heap.size, 2, none⟩) hl3).trans f1_2; have f2_3 := (hb.cell (p := ⟨w.heap.size, 3, none⟩) hl3).trans f1_3; have f2_4 := (hb.cell (p := ⟨w.heap.size, 4, none⟩) hl3).trans f1_4; have f2_5 := (hb.cell (p := ⟨w.heap.size, 5, none⟩) hl3).trans f1_5; have f2_6 := (hb.cell (p := ⟨w.heap.size, 6, none⟩) hl3).trans f1_6; have hl4 : w.heap.size < w4.heap.size := Nat.lt_of_lt_of_le hl3 hb.size; have hbd5 := hbd4.trans (hb.mono (Nat.le_of_lt hl3)); clear hb)
     | (go_at_call 17; (with_reducible refine (cache_New _ k3 k4 h5).mono ?_); rintro e w5 ⟨ca, rfl, h6, hb⟩; have f3_0 := (hb.cell (p := ⟨w.heap.size, 0, none⟩) hl4).trans f2_0; have f3_1 := (hb.cell (p := ⟨w.heap.size, 1, none⟩) hl4).trans f2_1; have f3_2 := (hb.cell (p := ⟨w.heap.size, 2, none⟩) hl4).trans f2_2; have f3_3 := (hb.cell (p := ⟨w.heap.size, 3, none⟩) hl4).trans f2_3; have f3_4 := (hb.cell (p := ⟨w.heap.size, 4, none⟩) hl4).trans f2_4; have f3_5 := (hb.cell (p := ⟨w.heap.size, 5, none⟩) hl4).trans f2_5; have f3_6 := (hb.cell (p := ⟨w.heap.size, 6, none⟩) hl4).trans f2_6; have hl5 : w.heap.size < w5.heap.size := Nat.lt_of_lt_of_le hl4 hb.size; have hbd6 := hbd5.trans (hb.mono (Nat.le_of_lt hl4)); clear hb)
     | (go_at_call 18; (with_reducible refine (timer_New h6).mono ?_); rintro e w6 ⟨ti, rfl, h7, hb⟩; have f4_0 := (hb.cell (p := ⟨w.heap.size, 0, none⟩) hl5).trans f3_0; have f4_1 := (hb.cell (p := ⟨w.heap.size, 1, none⟩) hl5).trans f3_1; have f4_2 := (hb.cell (p := ⟨w.heap.size, 2, none⟩) hl5).trans f3_2; have f4_3 := (hb.cell (p := ⟨w.heap.size, 3, none⟩) hl5).trans f3_3; have f4_4 := (hb.cell (p := ⟨w.heap.size, 4, none⟩) hl5).trans f3_4; have f4_5 := (hb.cell (p := ⟨w.heap.size, 5, none⟩) hl5).trans f3_5; have f4_6 := (hb.cell (p := ⟨w.heap.size, 6, none⟩) hl5).trans f3_6; have hl6 : w.heap.size < w6.heap.size := Nat.lt_of_lt_of_le hl5 hb.size; have hbd7 := hbd6.trans (hb.mono (Nat.le_of_lt hl5)); clear hb)
     | (go_at_call 19; (with_reducible refine (group_New h7).mono ?_); rintro e w7 ⟨gr, rfl, h8, hb⟩; have f5_0 := (hb.cell (p := ⟨w.heap.size, 0, none⟩) hl6).trans f4_0; have f5_1 := (hb.cell (p := ⟨w.heap.size, 1, none⟩) hl6).trans f4_1; have f5_2 := (hb.cell (p := ⟨w.heap.size, 2, none⟩) hl6).trans f4_2; have f5_3 := (hb.cell (p := ⟨w.heap.size, 3, none⟩) hl6).trans f4_3; have f5_4 := (hb.cell (p := ⟨w.heap.size, 4, none⟩) hl6).trans f4_4; have f5_5 := (hb.cell (p := ⟨w.heap.size, 5, none⟩) hl6).trans f4_5; have f5_6 := (hb.cell (p := ⟨w.heap.size, 6, none⟩) hl6).trans f4_6; have hl7 : w.heap.size < w7.heap.size := Nat.lt_of_lt_of_le hl6 hb.size; have hbd8 := hbd7.trans (hb.mono (Nat.le_of_lt hl6)); clear hb)
     | (go_at_call 20; (with_reducible refine (signal_New h8).mono ?_); rintro e w8 ⟨si, rfl, h9, hb⟩; have f6_0 := (hb.cell (p := ⟨w.heap.size, 0, none⟩) hl7).trans f5_0; have f6_1 := (hb.cell (p := ⟨w.heap.size, 1, none⟩) hl7).trans f5_1; have f6_2 := (hb.cell (p := ⟨w.heap.size, 2, none⟩) hl7).trans f5_2; have f6_3 := (hb.cell (p := ⟨w.heap.size, 3, none⟩) hl7).trans f5_3; have f6_4 := (hb.cell (p := ⟨w.heap.size, 4, none⟩) hl7).trans f5_4; have f6_5 := (hb.cell (p := ⟨w.heap.size, 5, none⟩) hl7).trans f5_5; have f6_6 := (hb.cell (p := ⟨w.heap.size, 6, none⟩) hl7).trans f5_6; have hl8 : w.heap.size < w8.heap.size := Nat.lt_of_lt_of_le hl7 hb.size; have hbd9 := hbd8.trans (hb.mono (Nat.le_of_lt hl7)); clear hb)
     | (go_at_call 21; (with_reducible refine (share_New h9).mono ?_); rintro e w9 ⟨sh, rfl, h10, hb⟩; have f7_0 := (hb.cell (p := ⟨w.heap.size, 0, none⟩) hl8).trans f6_0; have f7_1 := (hb.cell (p := ⟨w.heap.size, 1, none⟩) hl8).trans f6_1; have f7_2 := (hb.cell (p := ⟨w.heap.size, 2, none⟩) hl8).trans f6_2; have f7_3 := (hb.cell (p := ⟨w.heap.size, 3, none⟩) hl8).trans f6_3; have f7_4 := (hb.cell (p := ⟨w.heap.size, 4, none⟩) hl8).trans f6_4; have f7_5 := (hb.cell (p := ⟨w.heap.size, 5, none⟩) hl8).trans f6_5; have f7_6 := (hb.cell (p := ⟨w.heap.size, 6, none⟩) hl8).trans f6_6; have hl9 : w.heap.size < w9.heap.size := Nat.lt_of_lt_of_le hl8 hb.size; have hbd10 := hbd9.trans (hb.mono (Nat.le_of_lt hl8)); clear hb)
     | (go_at_call 22; (with_reducible refine (admit_New h10).mono ?_); rintro e w10 ⟨bo, rfl, h11, hb⟩; have f8_0 := (hb.cell (p := ⟨w.heap.size, 0, none⟩) hl9).trans f7_0; have f8_1 := (hb.cell (p := ⟨w.heap.size, 1, none⟩) hl9).trans f7_1; have f8_2 := (hb.cell (p := ⟨w.heap.size, 2, none⟩) hl9).trans f7_2; have f8_3 := (hb.cell (p := ⟨w.heap.size, 3, none⟩) hl9).trans f7_3; have f8_4 := (hb.cell (p := ⟨w.heap.size, 4, none⟩) hl9).trans f7_4; have f8_5 := (hb.cell (p := ⟨w.heap.size, 5, none⟩) hl9).trans f7_5; have f8_6 := (hb.cell (p := ⟨w.heap.size, 6, none⟩) hl9).trans f7_6; have hl10 : w.heap.size < w10.heap.size := Nat.lt_of_lt_of_le hl9 hb.size; have hbd11 := hbd10.trans (hb.mono (Nat.le_of_lt hl9)); clear hb)
     ))
  have H := Lib.hid h11
  have HBD := Lib.hid hbd11
  clear h2d h3 h4 h5 h6 h7 h8 h9 h10 h11 hbd hbd3 hbd4 hbd5 hbd6 hbd7 hbd8 hbd9 hbd10 hbd11
  go_wp2
  go_ret2
  refine ⟨_, ck, po, qu, ca, ti, gr, si, sh, bo, rfl, ?_, HBD.out.alloc HBD.out.size _⟩
  exact SW.left (B := blk w.heap.size (.cells #[.int .i64 c0, .int .u64 c1, .int .i64 c2, .int .i64 c3, .int .u64 c4, .int .i64 c5, .int .u64 c6] 32 (0, 0)))
    ((H.out.alloc (.cells (schedCells ⟨c0, c1, c2, c3, c4, c5, c6⟩ ck po qu ca ti gr si sh bo 0 (.slice none 0 0) (.slice none 0 0) (.slice none 0 0) 0 0).toArray 72)).perm (by ac_rfl))
end Go.Proofs.Lk
