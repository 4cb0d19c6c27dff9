/- What package queue computes. Conditions: fewer than 1,000,000 items. -/
import Derived.Test.YtkadikbajkjmaaaGreatDoorLibB
import Derived.Test.YtkadikbajkjmaaaGreatDoorApp
import Derived.Test.YtkadikbajkjmaaaGreatDoorTick
import Derived.Test.YtkadikbajkjmaaaGreatDoorLibC
namespace Go.Proofs.Lk
open Go Go.RowKit
attribute [local go_sem ↓] Go.wp_at_zero Go.wp_at_succ

theorem ok_Item : ElemOk Tryz.prog 97 201 5 := ElemOk.of Tryz.underlying97 info_Item (by decide) rfl (by decide)

def QueueAt (q : Nat) (l : List Item) (ag : Int) : HP := ex fun v : Option Addr × Nat => blk q (.cells #[.slice v.1 l.length v.2, .int .u64 ag] 99 (0, 0)) * RowOf 201 (.slice v.1 l.length v.2) l

theorem queue_open {E w : World} {F : HP} {q : Nat} {l : List Item} {ag : Int} (h : SW E (QueueAt q l ag * F) w) :
    ∃ a c, SW E (blk q (.cells #[.slice a l.length c, .int .u64 ag] 99 (0, 0)) * (RowOf 201 (.slice a l.length c) l * F)) w := by
  obtain ⟨v, hv⟩ := h.ex_elim
  exact ⟨v.1, v.2, hv.perm (star_assoc _ _ _)⟩
theorem queue_shut {E w : World} {F : HP} {q : Nat} {l : List Item} {ag : Int} {v : Value} (h : SW E (blk q (.cells #[v, .int .u64 ag] 99 (0, 0)) * (RowOf 201 v l * F)) w) : SW E (QueueAt q l ag * F) w := by
  obtain ⟨a, c, rfl⟩ := SW.row_slice (h.perm (by ac_rfl : _ = RowOf 201 v l * (blk q (.cells #[v, .int .u64 ag] 99 (0, 0)) * F)))
  exact SW.ex_intro (a, c) (h.perm (star_assoc _ _ _).symm)

set_option maxRecDepth 100000 in
theorem queue_at1 {E : World} {F : HP} (c : Nat) (x : Int) (l : List Item) (T : TypeId) : PredOn Tryz.prog E (blk c (.cells #[.int .i64 x] T (0, 0)) * F) 244 #[.pointer (some ⟨c, 0, none⟩)] (fun i : Item => i.id == x) l := by
  intro W i _ h
  have hc := SW.cell h 0
  have hlt := SW.lt h
  clear h
  obtain ⟨i0, i1, i2, i3, i4⟩ := i
  simp at hc
  show Calls _ _ #[_, _] _ _
  dsimp only [Enc.val]
  go_enter Tryz.func244, Tryz.ntmps244
  go_wp2
  go_ret
  exact ⟨rfl, (Below.refl _ _).alloc (Nat.le_refl _) _⟩

set_option maxRecDepth 100000 in
theorem queue_at {E w : World} {F : HP} (q : Nat) (x ag : Int) (l : List Item) (h : SW E (QueueAt q l ag * F) w) (hn : l.length ≤ 1000000) :
    Calls Tryz.prog 161 #[.pointer (some ⟨q, 0, none⟩), .int .i64 x] w fun e w' => e = .returned (.int .i64 (idxOf (fun i : Item => i.id == x) l)) ∧ Below w.heap.size w w' := by
  obtain ⟨va, vc, h⟩ := queue_open h
  have hq0 := SW.cell h 0
  have hqlt := SW.lt h
  have eg := enters_of Tryz.func244 (by kernel_rfl) rfl
  have h2 := h.alloc (.cells #[.int .i64 x] 3)
  have hr := (SW.rows (h2.right.right))
  have H := Lib.hid h2
  have Hr := Lib.hid hr
  clear h h2 hr
  simp at hq0
  go_enter Tryz.func161, Tryz.ntmps161
  go_wp2_with fail
  refine (indexFunc_Item _ _ _ _ _ _ H.out hn Hr.out (queue_at1 _ _ _ _) eg).mono ?_
  rintro e w' ⟨rfl, hb⟩
  go_wp2
  go_ret
  exact ⟨rfl, ((Below.refl _ _).alloc (Nat.le_refl _) _).trans (hb.mono (by simp))⟩

def qHas (l : List Item) (x : Int) : Bool := l.any fun i => i.id == x
def qPut (l : List Item) (i : Item) : Int × List Item :=
  if i.id < 1 ∨ i.cls < 1 ∨ i.cls > 6 then (2, l) else if 0 ≤ idxOf (fun j : Item => j.id == i.id) l then (16, l) else if 128 ≤ l.length then (10, l) else (0, l ++ [i])

set_option maxRecDepth 100000 in
set_option maxHeartbeats 1000000 in
theorem queue_Put {E w : World} {F : HP} (q : Nat) (i : Item) (ag : Int) (l : List Item) (h : SW E (QueueAt q l ag * F) w) (hn : l.length ≤ 1000) :
    Calls Tryz.prog 140 #[.pointer (some ⟨q, 0, none⟩), .agg #[.int .i64 i.id, .int .i64 i.cls, .int .u64 i.since, .string i.key, .int .i64 i.pre]] w
      fun e w' => e = .returned (.int .i64 (qPut l i).1) ∧ SW E (QueueAt q (qPut l i).2 ag * F) w' := by
  obtain ⟨i0, i1, i2, i3, i4⟩ := i
  obtain ⟨va, vc, hv⟩ := queue_open h
  have hq0 := SW.cell hv 0
  have hqlt := SW.lt hv
  have hqf := SW.frozen hv 0
  have h1 := hv.alloc (.cells #[.int .i64 i0, .int .i64 i1, .int .u64 i2, .string i3, .int .i64 i4] 201)
  have H1 := Lib.hid h1
  have HQ := Lib.hid (queue_shut (h1.perm (by ac_rfl : _ = blk q (.cells #[.slice va l.length vc, .int .u64 ag] 99 (0, 0)) * (RowOf 201 (.slice va l.length vc) l * (blk w.heap.size (.cells #[.int .i64 i0, .int .i64 i1, .int .u64 i2, .string i3, .int .i64 i4] 201) * F)))))
  have Hcell : ∀ k, (w.alloc (.cells #[.int .i64 i0, .int .i64 i1, .int .u64 i2, .string i3, .int .i64 i4] 201)).cell? ⟨w.heap.size, k, none⟩ = _ := fun k => SW.cell h1 k
  clear h hv h1 Hcell
  simp at hq0 hqf
  unfold qPut
  dsimp only
  by_cases c1 : i0 < 1
  · go_enter Tryz.func140, Tryz.ntmps140
    go_wp2
    go_ret
    exact ⟨rfl, HQ.out.perm (by ac_rfl) |>.right⟩
  replace c1 : 1 ≤ i0 := by omega
  by_cases c2 : i1 < 1
  · go_enter Tryz.func140, Tryz.ntmps140
    go_wp2
    go_ret
    exact ⟨rfl, HQ.out.perm (by ac_rfl) |>.right⟩
  replace c2 : 1 ≤ i1 := by omega
  by_cases c3 : 6 < i1
  · go_enter Tryz.func140, Tryz.ntmps140
    go_wp2
    go_ret
    exact ⟨rfl, HQ.out.perm (by ac_rfl) |>.right⟩
  replace c3 : i1 ≤ 6 := by omega
  rw [if_neg (by omega)]
  obtain ⟨x, hx⟩ : ∃ x, x = idxOf (fun j : Item => j.id == i0) l := ⟨_, rfl⟩
  rw [← hx]
  have Hx := Lib.hid hx; clear hx
  by_cases c4 : 0 ≤ x
  · go_enter Tryz.func140, Tryz.ntmps140
    go_wp2_with fail
    refine (queue_at q i0 ag l HQ.out (by omega)).mono ?_
    rw [← Hx.out]
    rintro e w1 ⟨rfl, hb⟩
    have HQ1 := Lib.hid (HQ.out.below hb)
    clear hb
    go_wp2
    go_ret
    exact ⟨rfl, HQ1.out.perm (by ac_rfl) |>.right⟩
  replace c4 : x < 0 := by omega
  by_cases c5 : 128 ≤ l.length
  · go_enter Tryz.func140, Tryz.ntmps140
    go_wp2_with fail
    refine (queue_at q i0 ag l HQ.out (by omega)).mono ?_
    rw [← Hx.out]
    rintro e w1 ⟨rfl, hb⟩
    have h2 := H1.out.below hb
    have H2 := Lib.hid h2
    have hbx := SW.cell h2
    have b0 := hbx 0
    have b1 := hbx 1
    have b2 := hbx 2
    have b3 := hbx 3
    have b4 := hbx 4
    have q0 := SW.cell h2.right 0
    have qf := SW.frozen h2.right 0
    have ql := SW.lt h2.right
    have bl := SW.lt h2
    clear hb h2 hbx
    simp at b0 b1 b2 b3 b4 q0 qf

    go_wp2
    go_ret
    exact ⟨rfl, queue_shut (H2.out.right.perm (by ac_rfl))⟩
  replace c5 : l.length < 128 := by omega
  go_enter Tryz.func140, Tryz.ntmps140
  go_wp2_with fail
  refine (queue_at q i0 ag l HQ.out (by omega)).mono ?_
  rw [← Hx.out]
  rintro e w1 ⟨rfl, hb⟩
  have h2 := H1.out.below hb
  have H2 := Lib.hid h2
  have hbx := SW.cell h2
  have b0 := hbx 0
  have b1 := hbx 1
  have b2 := hbx 2
  have b3 := hbx 3
  have b4 := hbx 4
  have q0 := SW.cell h2.right 0
  have qf := SW.frozen h2.right 0
  have ql := SW.lt h2.right
  have bl := SW.lt h2
  clear hb h2 hbx
  simp at b0 b1 b2 b3 b4 q0 qf

  go_wp2
  go_region_law
    ((refine step_append1 rfl (.tmp 39) (.tmp 41) 97 rfl ok_Item (l := l) (F := blk w.heap.size (.cells #[.int .i64 i0, .int .i64 i1, .int .u64 i2, .string i3, .int .i64 i4] 201 (0, 0)) * (blk q (.cells #[.slice va l.length vc, .int .u64 ag] 99 (0, 0)) * F)) (by simp [Act.eval]; rfl) ((H2.out.perm (by ac_rfl)).drew.alloc' _) (by omega) _ 1 _ [⟨i0, i1, i2, i3, i4⟩] (by simp [Act.eval]; rfl) rfl (by decide) (news1 _ (heap_alloc_new _ _)) ?_
      intro a' c' w2 hrow _
      have h3 := hrow.perm (by ac_rfl : _ = blk w.heap.size (.cells #[.int .i64 i0, .int .i64 i1, .int .u64 i2, .string i3, .int .i64 i4] 201 (0, 0)) * (blk q (.cells #[.slice va l.length vc, .int .u64 ag] 99 (0, 0)) * (RowOf 201 (.slice a' (l.length + 1) c') (l ++ [⟨i0, i1, i2, i3, i4⟩]) * F)))
      have H3 := Lib.hid h3
      have d0 := SW.cell h3 0
      have d1 := SW.cell h3 1
      have d2 := SW.cell h3 2
      have d3 := SW.cell h3 3
      have d4 := SW.cell h3 4
      have e0 := SW.cell h3.right 0
      have ef := SW.frozen h3.right 0
      clear hrow h3
      simp at d0 d1 d2 d3 d4 e0 ef))
  all_goals
    go_wp2
    go_ret
    refine ⟨rfl, queue_shut (v := .slice a' (l.length + 1) c') ?_⟩
    exact SW.set (k := 0) (c := #[.slice va l.length vc, .int .u64 ag]) H3.out.right (.slice a' (l.length + 1) c')

set_option maxRecDepth 100000 in
theorem queue_New {E w : World} {F : HP} (ag : Int) (h : SW E F w) :
    Calls Tryz.prog 16 #[.int .u64 ag] w fun e w' => ∃ q, e = .returned (.pointer (some ⟨q, 0, none⟩)) ∧ SW E (QueueAt q [] ag * F) w' := by
  have H := Lib.hid h
  clear h
  go_enter Tryz.func16, Tryz.ntmps16
  go_wp2
  go_ret
  exact ⟨_, rfl, queue_shut (((H.out.alloc _).perm (star_comm _ _)).rowOf_nil 201 |>.perm (by ac_rfl))⟩

def qDrop (l : List Item) (x : Int) : List Item := match l.findIdx? (fun i => i.id == x) with | some k => l.eraseIdx k | none => l

set_option maxRecDepth 100000 in
set_option maxHeartbeats 1000000 in
theorem queue_Drop {E w : World} {F : HP} (q : Nat) (x ag : Int) (l : List Item) (h : SW E (QueueAt q l ag * F) w) (hn : l.length ≤ 1000) :
    Calls Tryz.prog 86 #[.pointer (some ⟨q, 0, none⟩), .int .i64 x] w fun e w' => ∃ b, e = .returned (.bool b) ∧ SW E (QueueAt q (qDrop l x) ag * F) w' := by
  obtain ⟨va, vc, hv⟩ := queue_open h
  have H := Lib.hid h
  have Hv := Lib.hid hv
  clear h hv
  rcases idxOf_cases (fun i : Item => i.id == x) l with ⟨hj, hall⟩ | ⟨k, hk, hj, hp, hbefore⟩
  · have Hj := Lib.hid hj
    have Hr := Lib.hid (show qDrop l x = l by unfold qDrop; rw [List.findIdx?_eq_none_iff.2 hall])
    clear hj hall
    go_enter Tryz.func86, Tryz.ntmps86
    go_wp2_with fail
    refine (queue_at q x ag l H.out (by omega)).mono ?_
    rw [Hj.out]
    rintro e w1 ⟨rfl, hb⟩
    have H1 := Lib.hid (H.out.below hb)
    clear hb
    go_wp2
    go_ret
    exact ⟨_, rfl, by rw [Hr.out]; exact H1.out⟩
  · have Hj := Lib.hid hj
    have Hr := Lib.hid (show qDrop l x = l.eraseIdx k by
      unfold qDrop
      have : l.findIdx? (fun i => i.id == x) = some k := by
        rw [List.findIdx?_eq_some_iff_getElem]
        refine ⟨hk, hp, fun j hj' => ?_⟩
        have := hbefore l[j] (List.mem_take_iff_getElem.2 ⟨j, by omega, rfl⟩)
        simpa using this
      rw [this])
    have Hel := Lib.hid (show (l.eraseIdx k).length = l.length - 1 by rw [List.length_eraseIdx, if_pos hk])
    clear hj hp hbefore
    go_enter Tryz.func86, Tryz.ntmps86
    go_wp2_with fail
    refine (queue_at q x ag l H.out (by omega)).mono ?_
    rw [Hj.out]
    rintro e w1 ⟨rfl, hb⟩
    have h1 := Hv.out.below hb
    have H1 := Lib.hid h1
    have c0 := SW.cell h1 0
    have cl := SW.lt h1
    clear hb h1
    simp at c0
    go_wp2_with fail
    refine (delete_Item _ l k (H1.out.perm (by ac_rfl : _ = RowOf 201 (.slice va l.length vc) l * (blk q (.cells #[.slice va l.length vc, .int .u64 ag] 99 (0, 0)) * F))) (by omega) hk).mono ?_
    rintro e w2 ⟨v', rfl, h2⟩
    obtain ⟨a', c', rfl⟩ := h2.row_slice
    have h3 := h2.perm (by ac_rfl : _ = blk q (.cells #[.slice va l.length vc, .int .u64 ag] 99 (0, 0)) * (RowOf 201 (.slice a' (l.eraseIdx k).length c') (l.eraseIdx k) * F))
    have H3 := Lib.hid h3
    have e0 := SW.cell h3 0
    have ef := SW.frozen h3 0
    clear h2 h3
    simp at e0
    go_wp2
    go_ret
    refine ⟨_, rfl, ?_⟩
    rw [Hr.out]
    exact queue_shut (v := .slice a' (l.eraseIdx k).length c') (SW.set (k := 0) (c := #[.slice va l.length vc, .int .u64 ag]) H3.out _)

set_option maxRecDepth 100000 in
set_option maxHeartbeats 1000000 in
theorem rank_Less (a b : Item) (now ag : Int) (ha : InU a.since) (hb : InU b.since) (hn : InU now) (hg1 : 1 ≤ ag) (hg2 : ag ≤ 1000) (w : World) :
    Calls Tryz.prog 159 #[.agg #[.int .i64 a.id, .int .i64 a.cls, .int .u64 a.since, .string a.key, .int .i64 a.pre], .agg #[.int .i64 b.id, .int .i64 b.cls, .int .u64 b.since, .string b.key, .int .i64 b.pre], .int .u64 now, .int .u64 ag] w
      fun e w' => e = .returned (.bool (lessI a b now ag)) ∧ Below w.heap.size w w' := by
  have A := Lib.hid (fun W => rank_level a now ag ha hn hg1 hg2 W)
  have B := Lib.hid (fun W => rank_level b now ag hb hn hg1 hg2 W)
  have HL : Hid (lessI a b now ag = (decide (levelI a now ag < levelI b now ag) || (levelI a now ag == levelI b now ag && decide (a.id < b.id)))) := rfl
  obtain ⟨x, hx⟩ : ∃ x, x = levelI a now ag := ⟨_, rfl⟩
  obtain ⟨y, hy⟩ : ∃ y, y = levelI b now ag := ⟨_, rfl⟩
  rw [← hx] at A HL
  rw [← hy] at B HL
  clear ha hb hn hx hy
  obtain ⟨i0, i1, i2, i3, i4⟩ := a
  obtain ⟨j0, j1, j2, j3, j4⟩ := b
  dsimp only at A B HL ⊢
  have hcases : x < y ∨ (x = y ∧ i0 < j0) ∨ (x = y ∧ ¬ i0 < j0) ∨ y < x := by omega
  rcases hcases with c1 | ⟨rfl, c1⟩ | ⟨rfl, c1⟩ | c1
  all_goals
    have hz : w.heap.size < w.heap.size + 1 + 1 := by omega
    have hB0 := (((Below.refl w.heap.size w).alloc (Nat.le_refl _) (.cells #[.int .i64 i0, .int .i64 i1, .int .u64 i2, .string i3, .int .i64 i4] 201)).alloc (by simp) (.cells #[.int .i64 j0, .int .i64 j1, .int .u64 j2, .string j3, .int .i64 j4] 201)).drew
    go_enter Tryz.func159, Tryz.ntmps159
    go_wp2
    go_region_held3 (fun W => w.heap.size < W.heap.size ∧ w.heap.size + 1 < W.heap.size ∧ Below w.heap.size w W ∧ W.cell? ⟨w.heap.size, 0, none⟩ = some (.int .i64 i0) ∧ W.cell? ⟨w.heap.size, 1, none⟩ = some (.int .i64 i1) ∧ W.cell? ⟨w.heap.size, 2, none⟩ = some (.int .u64 i2) ∧ W.cell? ⟨w.heap.size, 3, none⟩ = some (.string i3) ∧ W.cell? ⟨w.heap.size, 4, none⟩ = some (.int .i64 i4)
      ∧ W.cell? ⟨w.heap.size+1, 0, none⟩ = some (.int .i64 j0) ∧ W.cell? ⟨w.heap.size+1, 1, none⟩ = some (.int .i64 j1) ∧ W.cell? ⟨w.heap.size+1, 2, none⟩ = some (.int .u64 j2) ∧ W.cell? ⟨w.heap.size+1, 3, none⟩ = some (.string j3) ∧ W.cell? ⟨w.heap.size+1, 4, none⟩ = some (.int .i64 j4))
     (go_keep) ((first
        | ((with_reducible refine (A.out _).mono ?_); rintro e w' ⟨rfl, hb⟩; have := bcell hb; have hs := hb.size; have hB1 := Below.trans (b := _) (by assumption) (hb.mono (B' := w.heap.size) (by first | (simp; done) | (simp; omega) | omega)); clear hb; (try simp at hs); have hs1 : w.heap.size < w'.heap.size := (by omega); have hs2 : w.heap.size + 1 < w'.heap.size := (by omega))
        | ((with_reducible refine (B.out _).mono ?_); rintro e w' ⟨rfl, hb⟩; have := bcell hb; have hs := hb.size; have hB1 := Below.trans (b := _) (by assumption) (hb.mono (B' := w.heap.size) (by first | (simp; done) | (simp; omega) | omega)); clear hb; (try simp at hs); have hs1 : w.heap.size < w'.heap.size := (by omega); have hs2 : w.heap.size + 1 < w'.heap.size := (by omega))))
    go_wp2
    go_ret
    exact ⟨ret_bool (by rw [HL.out]; simp [*]), by assumption⟩

end Go.Proofs.Lk
