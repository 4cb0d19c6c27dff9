/- Package slices at the program's own elements: IndexFunc, Delete. Conditions: the rows are shorter than 1,000,000; the function value answers a plain predicate. -/
import Derived.Test.YtkadikbajkjmaaaGreatDoorDat
import Derived.Test.YtkadikbajkjmaaaGreatDoorProg
import Derived.Deep.RegionLaw
import Derived.Deep.DrawnRows
namespace Go.Proofs.Lk
open Go Go.RowKit

theorem idxOf_aux : True := trivial

/-- Where the first element stands of which it is so; -1: nowhere. -/
def idxOf {α : Type} (p : α → Bool) (l : List α) : Int := match l.findIdx? p with | some i => i | none => -1
theorem idxOf_miss {α : Type} (p : α → Bool) (l : List α) (h : ∀ x ∈ l, p x = false) : idxOf p l = -1 := by
  unfold idxOf
  rw [List.findIdx?_eq_none_iff.2 h]
theorem idxOf_hit {α : Type} (p : α → Bool) (l : List α) (k : Nat) (hk : k < l.length) (h : ∀ x ∈ l.take k, p x = false) (hp : p l[k] = true) : idxOf p l = k := by
  unfold idxOf
  have : l.findIdx? p = some k := by
    rw [List.findIdx?_eq_some_iff_getElem]
    refine ⟨hk, hp, fun j hj => ?_⟩
    have := h l[j] (List.mem_take_iff_getElem.2 ⟨j, by omega, rfl⟩)
    simp [this]
  rw [this]
theorem idxOf_cases {α : Type} (p : α → Bool) (l : List α) : (idxOf p l = -1 ∧ ∀ x ∈ l, p x = false) ∨ ∃ k : Nat, ∃ hk : k < l.length, idxOf p l = k ∧ p l[k] = true ∧ ∀ x ∈ l.take k, p x = false := by
  unfold idxOf
  cases h : l.findIdx? p with
  | none => exact .inl ⟨rfl, List.findIdx?_eq_none_iff.1 h⟩
  | some k =>
    obtain ⟨hk, hp, hj⟩ := List.findIdx?_eq_some_iff_getElem.1 h
    refine .inr ⟨k, hk, rfl, hp, fun x hx => ?_⟩
    obtain ⟨j, hj', rfl⟩ := List.mem_take_iff_getElem.1 hx
    have := hj j (by omega)
    simpa using this
theorem take_succ_all {α : Type} (p : α → Bool) (l : List α) (k : Nat) (hk : k < l.length) (h : ∀ x ∈ l.take k, p x = false) (hp : p l[k] = false) : ∀ x ∈ l.take (k + 1), p x = false := by
  intro x hx
  rw [List.take_succ_eq_append_getElem hk] at hx
  rcases List.mem_append.1 hx with hx | hx
  · exact h x hx
  · simp at hx; subst hx; exact hp

/-- A function value that answers p on the elements of l, wherever F is met; it turns nothing that was there. -/
def PredOn {α : Type} [Enc α] (P : Program) (E : World) (F : HP) (g : Nat) (caps : Array Value) (p : α → Bool) (l : List α) : Prop :=
  ∀ (W : World) (x : α), x ∈ l → SW E F W → Calls P g (#[Enc.val x] ++ caps) W fun e W' => e = .returned (.bool (p x)) ∧ Below W.heap.size W W'


set_option maxRecDepth 100000 in
set_option maxHeartbeats 2000000 in
theorem indexFunc_Item {E : World} {F : HP} (v : Value) (l : List Item) (g : Nat) (caps : Array Value) (p : Item → Bool) (w : World) (hw : SW E F w) (hn : l.length ≤ 1000000) (hr : RowsIn w v l)
    (hp : PredOn Tryz.prog E F g caps p l) (eg : ∀ args W, (callFunc g args).run Tryz.prog W = .ok (.enter g args) W) :
    Calls Tryz.prog 243 #[v, .func (.func g) #[] caps] w fun e w' => e = .returned (.int .i64 (idxOf p l)) ∧ Below w.heap.size w w' := by
  have Hp := Lib.hid hp; clear hp
  have Hw := Lib.hid hw; clear hw
  rcases hr with ⟨rfl, rfl⟩ | ⟨b, off, cap, rfl, hc⟩
  · go_enter Tryz.func243, Tryz.ntmps243
    go_wp2
    go_loopw [5, 8] (fun _ i wr => i = .int .i64 0 ∧ Below w.heap.size w wr) (fun _ i _ => 0)
    case atStart => exact ⟨rfl, Below.refl _ _⟩
    case round =>
      obtain ⟨rfl, hbw⟩ := hrel
      go_wp2
      go_ret
      exact ⟨rfl, hbw⟩
  · have Hc := Lib.hid hc; clear hc
    go_enter Tryz.func243, Tryz.ntmps243
    go_wp2
    go_loopw [5, 8] (fun _ i wr => ∃ k : Nat, k ≤ l.length ∧ i = .int .i64 k ∧ (∀ x ∈ l.take k, p x = false) ∧ Below w.heap.size w wr) (fun _ i _ => l.length - (intOf i).toNat)
    case atStart => exact ⟨0, Nat.zero_le _, rfl, by simp, Below.refl _ _⟩
    case round =>
      obtain ⟨k, hk, rfl, hall, hbw⟩ := hrel
      have Hall := Lib.hid hall; clear hall
      by_cases hlt : k < l.length
      · have hblt := RowsIn.lt Hc.out (by omega)
        obtain ⟨c0, c1, c2, c3, c4⟩ := Item.reads Hc.out k hlt
        rw [← hbw.cell (p := ⟨b, _, none⟩) hblt] at c0 c1 c2 c3 c4
        have Hm : Hid (l[k] ∈ l) := Lib.hid (List.getElem_mem hlt)
        generalize hit : l[k] = it at *
        obtain ⟨x0, x1, x2, x3, x4⟩ := it
        dsimp only at c0 c1 c2 c3 c4
        have Hit := Lib.hid hit; clear hit
        go_wp2_with fail
        refine (Hp.out wr ⟨x0, x1, x2, x3, x4⟩ (Hit.out ▸ Hm.out) (Hw.out.below hbw)).mono ?_
        rintro e w2 ⟨rfl, hb2⟩
        have HB := Lib.hid (hbw.trans (hb2.mono hbw.size)); clear hb2
        cases hpp : p ⟨x0, x1, x2, x3, x4⟩ with
        | true =>
          have Hpp := Lib.hid hpp; clear hpp
          go_wp2
          go_ret
          rw [idxOf_hit p l k hlt Hall.out (by rw [Hit.out]; exact Hpp.out)]
          exact ⟨rfl, HB.out⟩
        | false =>
          have Hpp := Lib.hid hpp; clear hpp
          go_wp2
          go_roundw
          case rel => exact ⟨k + 1, by omega, by go_num, take_succ_all p l k hlt Hall.out (by rw [Hit.out]; exact Hpp.out), HB.out⟩
          case measure => simp [intOf]; omega
      · go_wp2
        go_ret
        have : k = l.length := by omega
        subst this
        rw [idxOf_miss p l (by simpa using Hall.out)]
        exact ⟨rfl, hbw⟩


set_option maxRecDepth 100000 in
set_option maxHeartbeats 2000000 in
theorem indexFunc_PConn {E : World} {F : HP} (v : Value) (l : List PConn) (g : Nat) (caps : Array Value) (p : PConn → Bool) (w : World) (hw : SW E F w) (hn : l.length ≤ 1000000) (hr : RowsIn w v l)
    (hp : PredOn Tryz.prog E F g caps p l) (eg : ∀ args W, (callFunc g args).run Tryz.prog W = .ok (.enter g args) W) :
    Calls Tryz.prog 306 #[v, .func (.func g) #[] caps] w fun e w' => e = .returned (.int .i64 (idxOf p l)) ∧ Below w.heap.size w w' := by
  have Hp := Lib.hid hp; clear hp
  have Hw := Lib.hid hw; clear hw
  rcases hr with ⟨rfl, rfl⟩ | ⟨b, off, cap, rfl, hc⟩
  · go_enter Tryz.func306, Tryz.ntmps306
    go_wp2
    go_loopw [5, 8] (fun _ i wr => i = .int .i64 0 ∧ Below w.heap.size w wr) (fun _ i _ => 0)
    case atStart => exact ⟨rfl, Below.refl _ _⟩
    case round =>
      obtain ⟨rfl, hbw⟩ := hrel
      go_wp2
      go_ret
      exact ⟨rfl, hbw⟩
  · have Hc := Lib.hid hc; clear hc
    go_enter Tryz.func306, Tryz.ntmps306
    go_wp2
    go_loopw [5, 8] (fun _ i wr => ∃ k : Nat, k ≤ l.length ∧ i = .int .i64 k ∧ (∀ x ∈ l.take k, p x = false) ∧ Below w.heap.size w wr) (fun _ i _ => l.length - (intOf i).toNat)
    case atStart => exact ⟨0, Nat.zero_le _, rfl, by simp, Below.refl _ _⟩
    case round =>
      obtain ⟨k, hk, rfl, hall, hbw⟩ := hrel
      have Hall := Lib.hid hall; clear hall
      by_cases hlt : k < l.length
      · have hblt := RowsIn.lt Hc.out (by omega)
        obtain ⟨c0, c1, c2⟩ := PConn.reads Hc.out k hlt
        rw [← hbw.cell (p := ⟨b, _, none⟩) hblt] at c0 c1 c2
        have Hm : Hid (l[k] ∈ l) := Lib.hid (List.getElem_mem hlt)
        generalize hit : l[k] = it at *
        obtain ⟨x0, x1, x2⟩ := it
        dsimp only at c0 c1 c2
        have Hit := Lib.hid hit; clear hit
        go_wp2_with fail
        refine (Hp.out wr ⟨x0, x1, x2⟩ (Hit.out ▸ Hm.out) (Hw.out.below hbw)).mono ?_
        rintro e w2 ⟨rfl, hb2⟩
        have HB := Lib.hid (hbw.trans (hb2.mono hbw.size)); clear hb2
        cases hpp : p ⟨x0, x1, x2⟩ with
        | true =>
          have Hpp := Lib.hid hpp; clear hpp
          go_wp2
          go_ret
          rw [idxOf_hit p l k hlt Hall.out (by rw [Hit.out]; exact Hpp.out)]
          exact ⟨rfl, HB.out⟩
        | false =>
          have Hpp := Lib.hid hpp; clear hpp
          go_wp2
          go_roundw
          case rel => exact ⟨k + 1, by omega, by go_num, take_succ_all p l k hlt Hall.out (by rw [Hit.out]; exact Hpp.out), HB.out⟩
          case measure => simp [intOf]; omega
      · go_wp2
        go_ret
        have : k = l.length := by omega
        subst this
        rw [idxOf_miss p l (by simpa using Hall.out)]
        exact ⟨rfl, hbw⟩


set_option maxRecDepth 100000 in
set_option maxHeartbeats 2000000 in
theorem indexFunc_AOne {E : World} {F : HP} (v : Value) (l : List AOne) (g : Nat) (caps : Array Value) (p : AOne → Bool) (w : World) (hw : SW E F w) (hn : l.length ≤ 1000000) (hr : RowsIn w v l)
    (hp : PredOn Tryz.prog E F g caps p l) (eg : ∀ args W, (callFunc g args).run Tryz.prog W = .ok (.enter g args) W) :
    Calls Tryz.prog 296 #[v, .func (.func g) #[] caps] w fun e w' => e = .returned (.int .i64 (idxOf p l)) ∧ Below w.heap.size w w' := by
  have Hp := Lib.hid hp; clear hp
  have Hw := Lib.hid hw; clear hw
  rcases hr with ⟨rfl, rfl⟩ | ⟨b, off, cap, rfl, hc⟩
  · go_enter Tryz.func296, Tryz.ntmps296
    go_wp2
    go_loopw [5, 8] (fun _ i wr => i = .int .i64 0 ∧ Below w.heap.size w wr) (fun _ i _ => 0)
    case atStart => exact ⟨rfl, Below.refl _ _⟩
    case round =>
      obtain ⟨rfl, hbw⟩ := hrel
      go_wp2
      go_ret
      exact ⟨rfl, hbw⟩
  · have Hc := Lib.hid hc; clear hc
    go_enter Tryz.func296, Tryz.ntmps296
    go_wp2
    go_loopw [5, 8] (fun _ i wr => ∃ k : Nat, k ≤ l.length ∧ i = .int .i64 k ∧ (∀ x ∈ l.take k, p x = false) ∧ Below w.heap.size w wr) (fun _ i _ => l.length - (intOf i).toNat)
    case atStart => exact ⟨0, Nat.zero_le _, rfl, by simp, Below.refl _ _⟩
    case round =>
      obtain ⟨k, hk, rfl, hall, hbw⟩ := hrel
      have Hall := Lib.hid hall; clear hall
      by_cases hlt : k < l.length
      · have hblt := RowsIn.lt Hc.out (by omega)
        obtain ⟨c0, c1, c2⟩ := AOne.reads Hc.out k hlt
        rw [← hbw.cell (p := ⟨b, _, none⟩) hblt] at c0 c1 c2
        have Hm : Hid (l[k] ∈ l) := Lib.hid (List.getElem_mem hlt)
        generalize hit : l[k] = it at *
        obtain ⟨x0, x1, x2⟩ := it
        dsimp only at c0 c1 c2
        have Hit := Lib.hid hit; clear hit
        go_wp2_with fail
        refine (Hp.out wr ⟨x0, x1, x2⟩ (Hit.out ▸ Hm.out) (Hw.out.below hbw)).mono ?_
        rintro e w2 ⟨rfl, hb2⟩
        have HB := Lib.hid (hbw.trans (hb2.mono hbw.size)); clear hb2
        cases hpp : p ⟨x0, x1, x2⟩ with
        | true =>
          have Hpp := Lib.hid hpp; clear hpp
          go_wp2
          go_ret
          rw [idxOf_hit p l k hlt Hall.out (by rw [Hit.out]; exact Hpp.out)]
          exact ⟨rfl, HB.out⟩
        | false =>
          have Hpp := Lib.hid hpp; clear hpp
          go_wp2
          go_roundw
          case rel => exact ⟨k + 1, by omega, by go_num, take_succ_all p l k hlt Hall.out (by rw [Hit.out]; exact Hpp.out), HB.out⟩
          case measure => simp [intOf]; omega
      · go_wp2
        go_ret
        have : k = l.length := by omega
        subst this
        rw [idxOf_miss p l (by simpa using Hall.out)]
        exact ⟨rfl, hbw⟩


set_option maxRecDepth 100000 in
set_option maxHeartbeats 2000000 in
theorem indexFunc_Host {E : World} {F : HP} (v : Value) (l : List Host) (g : Nat) (caps : Array Value) (p : Host → Bool) (w : World) (hw : SW E F w) (hn : l.length ≤ 1000000) (hr : RowsIn w v l)
    (hp : PredOn Tryz.prog E F g caps p l) (eg : ∀ args W, (callFunc g args).run Tryz.prog W = .ok (.enter g args) W) :
    Calls Tryz.prog 316 #[v, .func (.func g) #[] caps] w fun e w' => e = .returned (.int .i64 (idxOf p l)) ∧ Below w.heap.size w w' := by
  have Hp := Lib.hid hp; clear hp
  have Hw := Lib.hid hw; clear hw
  rcases hr with ⟨rfl, rfl⟩ | ⟨b, off, cap, rfl, hc⟩
  · go_enter Tryz.func316, Tryz.ntmps316
    go_wp2
    go_loopw [5, 8] (fun _ i wr => i = .int .i64 0 ∧ Below w.heap.size w wr) (fun _ i _ => 0)
    case atStart => exact ⟨rfl, Below.refl _ _⟩
    case round =>
      obtain ⟨rfl, hbw⟩ := hrel
      go_wp2
      go_ret
      exact ⟨rfl, hbw⟩
  · have Hc := Lib.hid hc; clear hc
    go_enter Tryz.func316, Tryz.ntmps316
    go_wp2
    go_loopw [5, 8] (fun _ i wr => ∃ k : Nat, k ≤ l.length ∧ i = .int .i64 k ∧ (∀ x ∈ l.take k, p x = false) ∧ Below w.heap.size w wr) (fun _ i _ => l.length - (intOf i).toNat)
    case atStart => exact ⟨0, Nat.zero_le _, rfl, by simp, Below.refl _ _⟩
    case round =>
      obtain ⟨k, hk, rfl, hall, hbw⟩ := hrel
      have Hall := Lib.hid hall; clear hall
      by_cases hlt : k < l.length
      · have hblt := RowsIn.lt Hc.out (by omega)
        obtain ⟨c0, c1⟩ := Host.reads Hc.out k hlt
        rw [← hbw.cell (p := ⟨b, _, none⟩) hblt] at c0 c1
        have Hm : Hid (l[k] ∈ l) := Lib.hid (List.getElem_mem hlt)
        generalize hit : l[k] = it at *
        obtain ⟨x0, x1⟩ := it
        dsimp only at c0 c1
        have Hit := Lib.hid hit; clear hit
        go_wp2_with fail
        refine (Hp.out wr ⟨x0, x1⟩ (Hit.out ▸ Hm.out) (Hw.out.below hbw)).mono ?_
        rintro e w2 ⟨rfl, hb2⟩
        have HB := Lib.hid (hbw.trans (hb2.mono hbw.size)); clear hb2
        cases hpp : p ⟨x0, x1⟩ with
        | true =>
          have Hpp := Lib.hid hpp; clear hpp
          go_wp2
          go_ret
          rw [idxOf_hit p l k hlt Hall.out (by rw [Hit.out]; exact Hpp.out)]
          exact ⟨rfl, HB.out⟩
        | false =>
          have Hpp := Lib.hid hpp; clear hpp
          go_wp2
          go_roundw
          case rel => exact ⟨k + 1, by omega, by go_num, take_succ_all p l k hlt Hall.out (by rw [Hit.out]; exact Hpp.out), HB.out⟩
          case measure => simp [intOf]; omega
      · go_wp2
        go_ret
        have : k = l.length := by omega
        subst this
        rw [idxOf_miss p l (by simpa using Hall.out)]
        exact ⟨rfl, hbw⟩


set_option maxRecDepth 100000 in
set_option maxHeartbeats 2000000 in
theorem indexFunc_SOneV {E : World} {F : HP} (v : Value) (l : List SOneV) (g : Nat) (caps : Array Value) (p : SOneV → Bool) (w : World) (hw : SW E F w) (hn : l.length ≤ 1000000) (hr : RowsIn w v l)
    (hp : PredOn Tryz.prog E F g caps p l) (eg : ∀ args W, (callFunc g args).run Tryz.prog W = .ok (.enter g args) W) :
    Calls Tryz.prog 249 #[v, .func (.func g) #[] caps] w fun e w' => e = .returned (.int .i64 (idxOf p l)) ∧ Below w.heap.size w w' := by
  have Hp := Lib.hid hp; clear hp
  have Hw := Lib.hid hw; clear hw
  rcases hr with ⟨rfl, rfl⟩ | ⟨b, off, cap, rfl, hc⟩
  · go_enter Tryz.func249, Tryz.ntmps249
    go_wp2
    go_loopw [5, 8] (fun _ i wr => i = .int .i64 0 ∧ Below w.heap.size w wr) (fun _ i _ => 0)
    case atStart => exact ⟨rfl, Below.refl _ _⟩
    case round =>
      obtain ⟨rfl, hbw⟩ := hrel
      go_wp2
      go_ret
      exact ⟨rfl, hbw⟩
  · have Hc := Lib.hid hc; clear hc
    go_enter Tryz.func249, Tryz.ntmps249
    go_wp2
    go_loopw [5, 8] (fun _ i wr => ∃ k : Nat, k ≤ l.length ∧ i = .int .i64 k ∧ (∀ x ∈ l.take k, p x = false) ∧ Below w.heap.size w wr) (fun _ i _ => l.length - (intOf i).toNat)
    case atStart => exact ⟨0, Nat.zero_le _, rfl, by simp, Below.refl _ _⟩
    case round =>
      obtain ⟨k, hk, rfl, hall, hbw⟩ := hrel
      have Hall := Lib.hid hall; clear hall
      by_cases hlt : k < l.length
      · have hblt := RowsIn.lt Hc.out (by omega)
        obtain ⟨c0, c1, c2, c3, c4, c5, c6⟩ := SOneV.reads Hc.out k hlt
        rw [← hbw.cell (p := ⟨b, _, none⟩) hblt] at c0 c1 c2 c3 c4 c5 c6
        have Hm : Hid (l[k] ∈ l) := Lib.hid (List.getElem_mem hlt)
        generalize hit : l[k] = it at *
        obtain ⟨x0, x1, x2, x3, x4, x5, x6⟩ := it
        dsimp only at c0 c1 c2 c3 c4 c5 c6
        have Hit := Lib.hid hit; clear hit
        go_wp2_with fail
        refine (Hp.out wr ⟨x0, x1, x2, x3, x4, x5, x6⟩ (Hit.out ▸ Hm.out) (Hw.out.below hbw)).mono ?_
        rintro e w2 ⟨rfl, hb2⟩
        have HB := Lib.hid (hbw.trans (hb2.mono hbw.size)); clear hb2
        cases hpp : p ⟨x0, x1, x2, x3, x4, x5, x6⟩ with
        | true =>
          have Hpp := Lib.hid hpp; clear hpp
          go_wp2
          go_ret
          rw [idxOf_hit p l k hlt Hall.out (by rw [Hit.out]; exact Hpp.out)]
          exact ⟨rfl, HB.out⟩
        | false =>
          have Hpp := Lib.hid hpp; clear hpp
          go_wp2
          go_roundw
          case rel => exact ⟨k + 1, by omega, by go_num, take_succ_all p l k hlt Hall.out (by rw [Hit.out]; exact Hpp.out), HB.out⟩
          case measure => simp [intOf]; omega
      · go_wp2
        go_ret
        have : k = l.length := by omega
        subst this
        rw [idxOf_miss p l (by simpa using Hall.out)]
        exact ⟨rfl, hbw⟩


set_option maxRecDepth 100000 in
set_option maxHeartbeats 2000000 in
theorem indexFunc_GOneV {E : World} {F : HP} (v : Value) (l : List GOneV) (g : Nat) (caps : Array Value) (p : GOneV → Bool) (w : World) (hw : SW E F w) (hn : l.length ≤ 1000000) (hr : RowsIn w v l)
    (hp : PredOn Tryz.prog E F g caps p l) (eg : ∀ args W, (callFunc g args).run Tryz.prog W = .ok (.enter g args) W) :
    Calls Tryz.prog 217 #[v, .func (.func g) #[] caps] w fun e w' => e = .returned (.int .i64 (idxOf p l)) ∧ Below w.heap.size w w' := by
  have Hp := Lib.hid hp; clear hp
  have Hw := Lib.hid hw; clear hw
  rcases hr with ⟨rfl, rfl⟩ | ⟨b, off, cap, rfl, hc⟩
  · go_enter Tryz.func217, Tryz.ntmps217
    go_wp2
    go_loopw [5, 8] (fun _ i wr => i = .int .i64 0 ∧ Below w.heap.size w wr) (fun _ i _ => 0)
    case atStart => exact ⟨rfl, Below.refl _ _⟩
    case round =>
      obtain ⟨rfl, hbw⟩ := hrel
      go_wp2
      go_ret
      exact ⟨rfl, hbw⟩
  · have Hc := Lib.hid hc; clear hc
    go_enter Tryz.func217, Tryz.ntmps217
    go_wp2
    go_loopw [5, 8] (fun _ i wr => ∃ k : Nat, k ≤ l.length ∧ i = .int .i64 k ∧ (∀ x ∈ l.take k, p x = false) ∧ Below w.heap.size w wr) (fun _ i _ => l.length - (intOf i).toNat)
    case atStart => exact ⟨0, Nat.zero_le _, rfl, by simp, Below.refl _ _⟩
    case round =>
      obtain ⟨k, hk, rfl, hall, hbw⟩ := hrel
      have Hall := Lib.hid hall; clear hall
      by_cases hlt : k < l.length
      · have hblt := RowsIn.lt Hc.out (by omega)
        obtain ⟨c0, c1⟩ := GOneV.reads Hc.out k hlt
        rw [← hbw.cell (p := ⟨b, _, none⟩) hblt] at c0 c1
        have Hm : Hid (l[k] ∈ l) := Lib.hid (List.getElem_mem hlt)
        generalize hit : l[k] = it at *
        obtain ⟨x0, x1⟩ := it
        dsimp only at c0 c1
        have Hit := Lib.hid hit; clear hit
        go_wp2_with fail
        refine (Hp.out wr ⟨x0, x1⟩ (Hit.out ▸ Hm.out) (Hw.out.below hbw)).mono ?_
        rintro e w2 ⟨rfl, hb2⟩
        have HB := Lib.hid (hbw.trans (hb2.mono hbw.size)); clear hb2
        cases hpp : p ⟨x0, x1⟩ with
        | true =>
          have Hpp := Lib.hid hpp; clear hpp
          go_wp2
          go_ret
          rw [idxOf_hit p l k hlt Hall.out (by rw [Hit.out]; exact Hpp.out)]
          exact ⟨rfl, HB.out⟩
        | false =>
          have Hpp := Lib.hid hpp; clear hpp
          go_wp2
          go_roundw
          case rel => exact ⟨k + 1, by omega, by go_num, take_succ_all p l k hlt Hall.out (by rw [Hit.out]; exact Hpp.out), HB.out⟩
          case measure => simp [intOf]; omega
      · go_wp2
        go_ret
        have : k = l.length := by omega
        subst this
        rw [idxOf_miss p l (by simpa using Hall.out)]
        exact ⟨rfl, hbw⟩


set_option maxRecDepth 100000 in
set_option maxHeartbeats 2000000 in
theorem indexFunc_Entry {E : World} {F : HP} (v : Value) (l : List Entry) (g : Nat) (caps : Array Value) (p : Entry → Bool) (w : World) (hw : SW E F w) (hn : l.length ≤ 1000000) (hr : RowsIn w v l)
    (hp : PredOn Tryz.prog E F g caps p l) (eg : ∀ args W, (callFunc g args).run Tryz.prog W = .ok (.enter g args) W) :
    Calls Tryz.prog 263 #[v, .func (.func g) #[] caps] w fun e w' => e = .returned (.int .i64 (idxOf p l)) ∧ Below w.heap.size w w' := by
  have Hp := Lib.hid hp; clear hp
  have Hw := Lib.hid hw; clear hw
  rcases hr with ⟨rfl, rfl⟩ | ⟨b, off, cap, rfl, hc⟩
  · go_enter Tryz.func263, Tryz.ntmps263
    go_wp2
    go_loopw [5, 8] (fun _ i wr => i = .int .i64 0 ∧ Below w.heap.size w wr) (fun _ i _ => 0)
    case atStart => exact ⟨rfl, Below.refl _ _⟩
    case round =>
      obtain ⟨rfl, hbw⟩ := hrel
      go_wp2
      go_ret
      exact ⟨rfl, hbw⟩
  · have Hc := Lib.hid hc; clear hc
    go_enter Tryz.func263, Tryz.ntmps263
    go_wp2
    go_loopw [5, 8] (fun _ i wr => ∃ k : Nat, k ≤ l.length ∧ i = .int .i64 k ∧ (∀ x ∈ l.take k, p x = false) ∧ Below w.heap.size w wr) (fun _ i _ => l.length - (intOf i).toNat)
    case atStart => exact ⟨0, Nat.zero_le _, rfl, by simp, Below.refl _ _⟩
    case round =>
      obtain ⟨k, hk, rfl, hall, hbw⟩ := hrel
      have Hall := Lib.hid hall; clear hall
      by_cases hlt : k < l.length
      · have hblt := RowsIn.lt Hc.out (by omega)
        obtain ⟨c0, c1, c2, c3, c4, c5⟩ := Entry.reads Hc.out k hlt
        rw [← hbw.cell (p := ⟨b, _, none⟩) hblt] at c0 c1 c2 c3 c4 c5
        have Hm : Hid (l[k] ∈ l) := Lib.hid (List.getElem_mem hlt)
        generalize hit : l[k] = it at *
        obtain ⟨x0, x1, x2, x3, x4, x5⟩ := it
        dsimp only at c0 c1 c2 c3 c4 c5
        have Hit := Lib.hid hit; clear hit
        go_wp2_with fail
        refine (Hp.out wr ⟨x0, x1, x2, x3, x4, x5⟩ (Hit.out ▸ Hm.out) (Hw.out.below hbw)).mono ?_
        rintro e w2 ⟨rfl, hb2⟩
        have HB := Lib.hid (hbw.trans (hb2.mono hbw.size)); clear hb2
        cases hpp : p ⟨x0, x1, x2, x3, x4, x5⟩ with
        | true =>
          have Hpp := Lib.hid hpp; clear hpp
          go_wp2
          go_ret
          rw [idxOf_hit p l k hlt Hall.out (by rw [Hit.out]; exact Hpp.out)]
          exact ⟨rfl, HB.out⟩
        | false =>
          have Hpp := Lib.hid hpp; clear hpp
          go_wp2
          go_roundw
          case rel => exact ⟨k + 1, by omega, by go_num, take_succ_all p l k hlt Hall.out (by rw [Hit.out]; exact Hpp.out), HB.out⟩
          case measure => simp [intOf]; omega
      · go_wp2
        go_ret
        have : k = l.length := by omega
        subst this
        rw [idxOf_miss p l (by simpa using Hall.out)]
        exact ⟨rfl, hbw⟩


set_option maxRecDepth 100000 in
set_option maxHeartbeats 2000000 in
theorem indexFunc_Ptr {E : World} {F : HP} (v : Value) (l : List Ptr) (g : Nat) (caps : Array Value) (p : Ptr → Bool) (w : World) (hw : SW E F w) (hn : l.length ≤ 1000000) (hr : RowsIn w v l)
    (hp : PredOn Tryz.prog E F g caps p l) (eg : ∀ args W, (callFunc g args).run Tryz.prog W = .ok (.enter g args) W) :
    Calls Tryz.prog 326 #[v, .func (.func g) #[] caps] w fun e w' => e = .returned (.int .i64 (idxOf p l)) ∧ Below w.heap.size w w' := by
  have Hp := Lib.hid hp; clear hp
  have Hw := Lib.hid hw; clear hw
  rcases hr with ⟨rfl, rfl⟩ | ⟨b, off, cap, rfl, hc⟩
  · go_enter Tryz.func326, Tryz.ntmps326
    go_wp2
    go_loopw [5, 8] (fun _ i wr => i = .int .i64 0 ∧ Below w.heap.size w wr) (fun _ i _ => 0)
    case atStart => exact ⟨rfl, Below.refl _ _⟩
    case round =>
      obtain ⟨rfl, hbw⟩ := hrel
      go_wp2
      go_ret
      exact ⟨rfl, hbw⟩
  · have Hc := Lib.hid hc; clear hc
    go_enter Tryz.func326, Tryz.ntmps326
    go_wp2
    go_loopw [5, 8] (fun _ i wr => ∃ k : Nat, k ≤ l.length ∧ i = .int .i64 k ∧ (∀ x ∈ l.take k, p x = false) ∧ Below w.heap.size w wr) (fun _ i _ => l.length - (intOf i).toNat)
    case atStart => exact ⟨0, Nat.zero_le _, rfl, by simp, Below.refl _ _⟩
    case round =>
      obtain ⟨k, hk, rfl, hall, hbw⟩ := hrel
      have Hall := Lib.hid hall; clear hall
      by_cases hlt : k < l.length
      · have hblt := RowsIn.lt Hc.out (by omega)
        obtain c0 := Ptr.reads Hc.out k hlt
        rw [← hbw.cell (p := ⟨b, _, none⟩) hblt] at c0
        have Hm : Hid (l[k] ∈ l) := Lib.hid (List.getElem_mem hlt)
        generalize hit : l[k] = it at *
        obtain ⟨x0⟩ := it
        dsimp only at c0
        have Hit := Lib.hid hit; clear hit
        go_wp2_with fail
        refine (Hp.out wr ⟨x0⟩ (Hit.out ▸ Hm.out) (Hw.out.below hbw)).mono ?_
        rintro e w2 ⟨rfl, hb2⟩
        have HB := Lib.hid (hbw.trans (hb2.mono hbw.size)); clear hb2
        cases hpp : p ⟨x0⟩ with
        | true =>
          have Hpp := Lib.hid hpp; clear hpp
          go_wp2
          go_ret
          rw [idxOf_hit p l k hlt Hall.out (by rw [Hit.out]; exact Hpp.out)]
          exact ⟨rfl, HB.out⟩
        | false =>
          have Hpp := Lib.hid hpp; clear hpp
          go_wp2
          go_roundw
          case rel => exact ⟨k + 1, by omega, by go_num, take_succ_all p l k hlt Hall.out (by rw [Hit.out]; exact Hpp.out), HB.out⟩
          case measure => simp [intOf]; omega
      · go_wp2
        go_ret
        have : k = l.length := by omega
        subst this
        rw [idxOf_miss p l (by simpa using Hall.out)]
        exact ⟨rfl, hbw⟩


set_option maxRecDepth 100000 in
set_option maxHeartbeats 2000000 in
theorem indexFunc_Int {E : World} {F : HP} (v : Value) (l : List Int) (g : Nat) (caps : Array Value) (p : Int → Bool) (w : World) (hw : SW E F w) (hn : l.length ≤ 1000000) (hr : RowsIn w v l)
    (hp : PredOn Tryz.prog E F g caps p l) (eg : ∀ args W, (callFunc g args).run Tryz.prog W = .ok (.enter g args) W) :
    Calls Tryz.prog 301 #[v, .func (.func g) #[] caps] w fun e w' => e = .returned (.int .i64 (idxOf p l)) ∧ Below w.heap.size w w' := by
  have Hp := Lib.hid hp; clear hp
  have Hw := Lib.hid hw; clear hw
  rcases hr with ⟨rfl, rfl⟩ | ⟨b, off, cap, rfl, hc⟩
  · go_enter Tryz.func301, Tryz.ntmps301
    go_wp2
    go_loopw [5, 8] (fun _ i wr => i = .int .i64 0 ∧ Below w.heap.size w wr) (fun _ i _ => 0)
    case atStart => exact ⟨rfl, Below.refl _ _⟩
    case round =>
      obtain ⟨rfl, hbw⟩ := hrel
      go_wp2
      go_ret
      exact ⟨rfl, hbw⟩
  · have Hc := Lib.hid hc; clear hc
    go_enter Tryz.func301, Tryz.ntmps301
    go_wp2
    go_loopw [5, 8] (fun _ i wr => ∃ k : Nat, k ≤ l.length ∧ i = .int .i64 k ∧ (∀ x ∈ l.take k, p x = false) ∧ Below w.heap.size w wr) (fun _ i _ => l.length - (intOf i).toNat)
    case atStart => exact ⟨0, Nat.zero_le _, rfl, by simp, Below.refl _ _⟩
    case round =>
      obtain ⟨k, hk, rfl, hall, hbw⟩ := hrel
      have Hall := Lib.hid hall; clear hall
      by_cases hlt : k < l.length
      · have hblt := RowsIn.lt Hc.out (by omega)
        obtain c0 := Int.reads Hc.out k hlt
        rw [← hbw.cell (p := ⟨b, _, none⟩) hblt] at c0
        have Hm : Hid (l[k] ∈ l) := Lib.hid (List.getElem_mem hlt)
        generalize hit : l[k] = x0 at *
        have Hit := Lib.hid hit; clear hit
        go_wp2_with fail
        refine (Hp.out wr x0 (Hit.out ▸ Hm.out) (Hw.out.below hbw)).mono ?_
        rintro e w2 ⟨rfl, hb2⟩
        have HB := Lib.hid (hbw.trans (hb2.mono hbw.size)); clear hb2
        cases hpp : p x0 with
        | true =>
          have Hpp := Lib.hid hpp; clear hpp
          go_wp2
          go_ret
          rw [idxOf_hit p l k hlt Hall.out (by rw [Hit.out]; exact Hpp.out)]
          exact ⟨rfl, HB.out⟩
        | false =>
          have Hpp := Lib.hid hpp; clear hpp
          go_wp2
          go_roundw
          case rel => exact ⟨k + 1, by omega, by go_num, take_succ_all p l k hlt Hall.out (by rw [Hit.out]; exact Hpp.out), HB.out⟩
          case measure => simp [intOf]; omega
      · go_wp2
        go_ret
        have : k = l.length := by omega
        subst this
        rw [idxOf_miss p l (by simpa using Hall.out)]
        exact ⟨rfl, hbw⟩

end Go.Proofs.Lk
