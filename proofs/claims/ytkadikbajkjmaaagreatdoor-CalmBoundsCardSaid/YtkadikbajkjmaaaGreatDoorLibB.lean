/- slices.Delete of one element, at the program's own elements. Conditions: the row is one's own and shorter than 1,000,000. -/
import Derived.Test.YtkadikbajkjmaaaGreatDoorLibA
namespace Go.Proofs.Lk
open Go Go.RowKit
attribute [local go_sem ↓] Go.wp_at_zero Go.wp_at_succ

theorem zeroCells_len (z : Array Value) (n : Nat) : (Builtin.zeroCells z n).toList.length = n * z.size := by simp [Builtin.zeroCells]

/-- clear(s), s a slice of n elements of any number of cells. -/
theorem run_clear_rows {P : Program} (w : World) (t e ty : TypeId) (z : Value) (ht : P.underlying t = some (.slice e)) (hv : ∀ w, (zeroValue e).run P w = .ok z w) (h1 : ∀ u ∈ z.cells, u.oneCell' = true) (b o n c : Nat) (hn : 0 < n) (hs : 0 < z.cells.size)
    (hc : ∀ j, j < n * z.cells.size → (w.cell? ⟨b, o + j, none⟩).isSome = true) (hf : ∀ j, j < n * z.cells.size → w.frozen? ⟨b, o + j, none⟩ = false) :
    (Builtin.clear_ #[t] ty #[.slice (some ⟨b, o, none⟩) n c]).run P w = .ok (.tuple #[]) (w.setCells b o (Builtin.zeroCells z.cells n).toList) := by
  have hlen := zeroCells_len z.cells n
  have hst := run_storeCells_cells (P := P) b o (Builtin.zeroCells z.cells n).toList 0 w (by rw [hlen]; simpa using hc) (by rw [hlen]; simpa using hf) (by
    intro v hv'
    simp only [Builtin.zeroCells, Array.toList_map, List.mem_map] at hv'
    obtain ⟨i, _, rfl⟩ := hv'
    refine h1 _ ?_
    rw [getElem!_pos z.cells (i % z.cells.size) (Nat.mod_lt _ hs)]
    exact Array.getElem_mem _)
  simp only [Nat.add_zero] at hst
  obtain ⟨m, rfl⟩ : ∃ m, n = m + 1 := ⟨n - 1, by omega⟩
  simp [Builtin.clear_, run_underlying ht, hv, hst]

section
variable {α : Type} [Enc α]
open Enc
theorem delete_cells (cur : Array Value) (l : List α) (i r cap : Nat) (hr : l.length = i + 1 + r) (hs : cur.size = cap * sz α) (hcap : i + 1 + r ≤ cap) (ht : cur.toList.take ((i + 1 + r) * sz α) = enc l) (zs : List Value) (hz : zs.length = sz α) :
    (overlay (overlay cur (i * sz α) (enc (l.drop (i + 1)))) ((i + r) * sz α) zs).size = cap * sz α ∧
    (overlay (overlay cur (i * sz α) (enc (l.drop (i + 1)))) ((i + r) * sz α) zs).toList.take ((i + r) * sz α) = enc (l.eraseIdx i) := by
  have hlen : (enc (l.drop (i + 1))).length = r * sz α := by rw [enc_length, List.length_drop]; congr 1; omega
  have h1 : (i + 1 + r) * sz α ≤ cap * sz α := Nat.mul_le_mul_right _ hcap
  have e1 : (i + 1 + r) * sz α = i * sz α + sz α + r * sz α := by rw [Nat.add_mul, Nat.add_mul, Nat.one_mul]
  have e2 : (i + r) * sz α = i * sz α + r * sz α := Nat.add_mul _ _ _
  refine ⟨by rw [overlay_size, overlay_size, hs], ?_⟩
  rw [overlay_list _ _ _ (by rw [overlay_size, hs, hz]; omega), List.append_assoc, List.take_left' (by rw [List.length_take, Array.length_toList, overlay_size, hs]; omega)]
  rw [overlay_list _ _ _ (by rw [hs, hlen]; omega), List.take_left' (by rw [List.length_append, List.length_take, Array.length_toList, hs, hlen]; omega)]
  rw [List.eraseIdx_eq_take_drop_succ, enc_append]
  congr 1
  rw [← enc_take, ← ht, List.take_take, Nat.min_eq_left (by omega)]

theorem delete_news (cur : Array Value) (l : List α) (i r : Nat) (ht : cur.toList.take ((i + 1 + r) * sz α) = enc l) :
    ∀ t u, (enc (l.drop (i + 1)))[t]? = some u → cur[(i + 1) * sz α + t]? = some u := by
  intro t u hu
  rw [← enc_drop, List.getElem?_drop, ← ht, List.getElem?_take] at hu
  split at hu
  · simpa using hu
  · cases hu
end

theorem info_Item : (Tryz.prog.info? 201).map (fun i => (i.zero, i.size, i.bytes)) = some (some (.agg #[.int .i64 0, .int .i64 0, .int .u64 0, .string ⟨#[]⟩, .int .i64 0]), 5, 48) := by kernel_rfl
set_option maxRecDepth 100000 in
set_option maxHeartbeats 400000 in
theorem delete_Item {E w : World} {F : HP} (v : Value) (l : List Item) (i : Nat) (h : SW E (RowOf 201 v l * F) w) (hn : l.length ≤ 1000000) (hi : i < l.length) :
    Calls Tryz.prog 162 #[v, .int .i64 i, .int .i64 (i + 1)] w fun e w' => ∃ v', e = .returned v' ∧ SW E (RowOf 201 v' (l.eraseIdx i) * F) w' := by
  obtain ⟨r, hr⟩ : ∃ r, l.length = i + 1 + r := ⟨l.length - (i + 1), by omega⟩
  rcases SW.row_form h with ⟨_, h0, _⟩ | ⟨g, cap, cur, rfl, hnc, hm, hs, ht, hb⟩
  · omega
  rw [hr] at hnc hn ht ⊢
  unfold maxLen at hm
  have hdn := delete_news cur l i r ht
  have hdc := delete_cells cur l i r cap hr hs hnc ht (Builtin.zeroCells (Value.cells (.agg #[.int .i64 0, .int .i64 0, .int .u64 0, .string ⟨#[]⟩, .int .i64 0])) 1).toList (by rw [zeroCells_len, Nat.one_mul]; rfl)
  have hlen : (enc (l.drop (i + 1))).length = r * 5 := by rw [enc_length, List.length_drop, show l.length - (i + 1) = r by omega]; rfl
  have hone := enc_one (l.drop (i + 1))
  have hel : (l.eraseIdx i).length = i + r := by rw [List.length_eraseIdx, if_pos hi]; omega
  generalize enc (l.drop (i + 1)) = news at *
  have hs' : cur.size = cap * 5 := hs
  have hdn' : ∀ t u, news[t]? = some u → cur[(i + 1) * 5 + t]? = some u := hdn
  have hdc' := hdc.1
  change (overlay (overlay cur (i * 5) news) ((i + r) * 5) _).size = cap * 5 at hdc'
  have Hd2 := Lib.hid hdc.2
  obtain ⟨A, hA, hsrc⟩ : ∃ A : Addr, (if cap = i + 1 then some (⟨g, 0, none⟩ : Addr) else some ⟨g, (i + 1) * 5, none⟩) = some A ∧ Hid (∀ t u, news[t]? = some u → w.drew.cell? (A.add t) = some u) := by
    by_cases h : cap = i + 1
    · refine ⟨⟨g, 0, none⟩, by simp [h], fun t u hu => ?_⟩
      have h0 : news.length = 0 := by rw [hlen]; omega
      rw [List.length_eq_zero_iff.1 h0] at hu
      simp at hu
    · refine ⟨⟨g, (i + 1) * 5, none⟩, by simp [h], fun t u hu => ?_⟩
      rw [Addr.add_lit]
      exact (hb.cell _).trans (by simpa using hdn' t u hu)
  have s1 : Hid (news.length = r * 5) := hlen
  have s2 : Hid (∀ u ∈ news, u.oneCell' = true) := hone
  have s3 : Hid (∀ t, t < news.length → (w.drew.cell? ⟨g, 0 + i * 5 + t, none⟩).isSome = true ∧ w.drew.frozen? ⟨g, 0 + i * 5 + t, none⟩ = false) := by
    intro t ht'
    rw [hlen] at ht'
    exact ⟨hb.some _ (by rw [hs']; omega), hb.frozen _⟩
  have hb1 := (hb.drew).setCells news (i * 5) cur
  obtain ⟨W1, hW1⟩ : ∃ W1, W1 = w.drew.setCells g (0 + i * 5) news := ⟨_, rfl⟩
  rw [← Nat.zero_add (i * 5), ← hW1] at hb1
  have hcl : ∀ ty, (Builtin.clear_ #[97] ty #[.slice (some ⟨g, (i + r) * 5, none⟩) (i + 1 + r - (i + r)) (cap - (i + r))]).run Tryz.prog W1 = .ok (.tuple #[]) (W1.setCells g ((i + r) * 5) (Builtin.zeroCells (Value.cells (.agg #[.int .i64 0, .int .i64 0, .int .u64 0, .string ⟨#[]⟩, .int .i64 0])) 1).toList) :=
    fun ty => by
      rw [show i + 1 + r - (i + r) = 1 by omega]
      exact run_clear_rows W1 97 201 ty (.agg #[.int .i64 0, .int .i64 0, .int .u64 0, .string ⟨#[]⟩, .int .i64 0]) Tryz.underlying97 (fun w => by kernel_rfl) (by simp [Value.cells, Value.oneCell']) g ((i + r) * 5) 1 _ (by decide) (by decide)
        (fun j hj => hb1.some _ (by rw [overlay_size, hs']; have hj' : j < 1 * 5 := hj; omega)) (fun j hj => hb1.frozen _)
  have hb2 := hb1.setCells (Builtin.zeroCells (Value.cells (.agg #[.int .i64 0, .int .i64 0, .int .u64 0, .string ⟨#[]⟩, .int .i64 0])) 1).toList ((i + r) * 5) _
  have HB2 := Lib.hid hb2
  have HW : Hid (W1 = w.drew.setCells g (0 + i * 5) news) := hW1
  have Hdc := Lib.hid hdc'
  have Hel := Lib.hid hel
  obtain ⟨i0, hi0, hz0, hz1, hz2⟩ := info_parts info_Item
  have hic : i ≤ cap := by omega
  have hjc : i + 1 ≤ cap := by omega
  have hq1 : (0 : Int) ≤ (i : Int) + 1 := by omega
  have hq2 : (i : Int) + 1 ≤ (i : Int) + 1 + (r : Int) := by omega
  clear h hb hb1 hb2 hW1 hr ht hi hs hs' hdn hdn' hdc hdc' hlen hone hel
  go_enter Tryz.func162, Tryz.ntmps162
  go_wp2_with fail
  go_region_law (refine step_append_room rfl (.tmp 22) (.tmp 25) 97 rfl 201 i0 5 Tryz.underlying97 hi0 hz1 g 0 i cap (by simp [Act.eval, Act.put]) A r (cap - (i + 1)) news (by simp [Act.eval, Act.put]) s1.out hsrc.out s2.out (by omega) s3.out ?_; rw [← HW.out])
  go_wp2
  go_ret
  refine ⟨.slice (some ⟨g, 0, none⟩) (i + r) cap, rfl, ?_⟩
  rw [show RowOf 201 (.slice (some ⟨g, 0, none⟩) (i + r) cap) (l.eraseIdx i) = Row 201 (Enc.sz Item) (.slice (some ⟨g, 0, none⟩) (i + r) cap) (i + r) (enc (l.eraseIdx i)) by unfold RowOf; rw [Hel.out]]
  exact SW.row_of_blk HB2.out (by omega) (by unfold maxLen; omega) (by rw [Nat.zero_add]; exact Hdc.out) (by rw [Nat.zero_add]; exact Hd2.out)


theorem info_PConn : (Tryz.prog.info? 273).map (fun i => (i.zero, i.size, i.bytes)) = some (some (.agg #[.int .i64 0, .string ⟨#[]⟩, .int .u64 0]), 3, 32) := by kernel_rfl
set_option maxRecDepth 100000 in
set_option maxHeartbeats 400000 in
theorem delete_PConn {E w : World} {F : HP} (v : Value) (l : List PConn) (i : Nat) (h : SW E (RowOf 273 v l * F) w) (hn : l.length ≤ 1000000) (hi : i < l.length) :
    Calls Tryz.prog 231 #[v, .int .i64 i, .int .i64 (i + 1)] w fun e w' => ∃ v', e = .returned v' ∧ SW E (RowOf 273 v' (l.eraseIdx i) * F) w' := by
  obtain ⟨r, hr⟩ : ∃ r, l.length = i + 1 + r := ⟨l.length - (i + 1), by omega⟩
  rcases SW.row_form h with ⟨_, h0, _⟩ | ⟨g, cap, cur, rfl, hnc, hm, hs, ht, hb⟩
  · omega
  rw [hr] at hnc hn ht ⊢
  unfold maxLen at hm
  have hdn := delete_news cur l i r ht
  have hdc := delete_cells cur l i r cap hr hs hnc ht (Builtin.zeroCells (Value.cells (.agg #[.int .i64 0, .string ⟨#[]⟩, .int .u64 0])) 1).toList (by rw [zeroCells_len, Nat.one_mul]; rfl)
  have hlen : (enc (l.drop (i + 1))).length = r * 3 := by rw [enc_length, List.length_drop, show l.length - (i + 1) = r by omega]; rfl
  have hone := enc_one (l.drop (i + 1))
  have hel : (l.eraseIdx i).length = i + r := by rw [List.length_eraseIdx, if_pos hi]; omega
  generalize enc (l.drop (i + 1)) = news at *
  have hs' : cur.size = cap * 3 := hs
  have hdn' : ∀ t u, news[t]? = some u → cur[(i + 1) * 3 + t]? = some u := hdn
  have hdc' := hdc.1
  change (overlay (overlay cur (i * 3) news) ((i + r) * 3) _).size = cap * 3 at hdc'
  have Hd2 := Lib.hid hdc.2
  obtain ⟨A, hA, hsrc⟩ : ∃ A : Addr, (if cap = i + 1 then some (⟨g, 0, none⟩ : Addr) else some ⟨g, (i + 1) * 3, none⟩) = some A ∧ Hid (∀ t u, news[t]? = some u → w.drew.cell? (A.add t) = some u) := by
    by_cases h : cap = i + 1
    · refine ⟨⟨g, 0, none⟩, by simp [h], fun t u hu => ?_⟩
      have h0 : news.length = 0 := by rw [hlen]; omega
      rw [List.length_eq_zero_iff.1 h0] at hu
      simp at hu
    · refine ⟨⟨g, (i + 1) * 3, none⟩, by simp [h], fun t u hu => ?_⟩
      rw [Addr.add_lit]
      exact (hb.cell _).trans (by simpa using hdn' t u hu)
  have s1 : Hid (news.length = r * 3) := hlen
  have s2 : Hid (∀ u ∈ news, u.oneCell' = true) := hone
  have s3 : Hid (∀ t, t < news.length → (w.drew.cell? ⟨g, 0 + i * 3 + t, none⟩).isSome = true ∧ w.drew.frozen? ⟨g, 0 + i * 3 + t, none⟩ = false) := by
    intro t ht'
    rw [hlen] at ht'
    exact ⟨hb.some _ (by rw [hs']; omega), hb.frozen _⟩
  have hb1 := (hb.drew).setCells news (i * 3) cur
  obtain ⟨W1, hW1⟩ : ∃ W1, W1 = w.drew.setCells g (0 + i * 3) news := ⟨_, rfl⟩
  rw [← Nat.zero_add (i * 3), ← hW1] at hb1
  have hcl : ∀ ty, (Builtin.clear_ #[94] ty #[.slice (some ⟨g, (i + r) * 3, none⟩) (i + 1 + r - (i + r)) (cap - (i + r))]).run Tryz.prog W1 = .ok (.tuple #[]) (W1.setCells g ((i + r) * 3) (Builtin.zeroCells (Value.cells (.agg #[.int .i64 0, .string ⟨#[]⟩, .int .u64 0])) 1).toList) :=
    fun ty => by
      rw [show i + 1 + r - (i + r) = 1 by omega]
      exact run_clear_rows W1 94 273 ty (.agg #[.int .i64 0, .string ⟨#[]⟩, .int .u64 0]) Tryz.underlying94 (fun w => by kernel_rfl) (by simp [Value.cells, Value.oneCell']) g ((i + r) * 3) 1 _ (by decide) (by decide)
        (fun j hj => hb1.some _ (by rw [overlay_size, hs']; have hj' : j < 1 * 3 := hj; omega)) (fun j hj => hb1.frozen _)
  have hb2 := hb1.setCells (Builtin.zeroCells (Value.cells (.agg #[.int .i64 0, .string ⟨#[]⟩, .int .u64 0])) 1).toList ((i + r) * 3) _
  have HB2 := Lib.hid hb2
  have HW : Hid (W1 = w.drew.setCells g (0 + i * 3) news) := hW1
  have Hdc := Lib.hid hdc'
  have Hel := Lib.hid hel
  obtain ⟨i0, hi0, hz0, hz1, hz2⟩ := info_parts info_PConn
  have hic : i ≤ cap := by omega
  have hjc : i + 1 ≤ cap := by omega
  have hq1 : (0 : Int) ≤ (i : Int) + 1 := by omega
  have hq2 : (i : Int) + 1 ≤ (i : Int) + 1 + (r : Int) := by omega
  clear h hb hb1 hb2 hW1 hr ht hi hs hs' hdn hdn' hdc hdc' hlen hone hel
  go_enter Tryz.func231, Tryz.ntmps231
  go_wp2_with fail
  go_region_law (refine step_append_room rfl (.tmp 22) (.tmp 25) 94 rfl 273 i0 3 Tryz.underlying94 hi0 hz1 g 0 i cap (by simp [Act.eval, Act.put]) A r (cap - (i + 1)) news (by simp [Act.eval, Act.put]) s1.out hsrc.out s2.out (by omega) s3.out ?_; rw [← HW.out])
  go_wp2
  go_ret
  refine ⟨.slice (some ⟨g, 0, none⟩) (i + r) cap, rfl, ?_⟩
  rw [show RowOf 273 (.slice (some ⟨g, 0, none⟩) (i + r) cap) (l.eraseIdx i) = Row 273 (Enc.sz PConn) (.slice (some ⟨g, 0, none⟩) (i + r) cap) (i + r) (enc (l.eraseIdx i)) by unfold RowOf; rw [Hel.out]]
  exact SW.row_of_blk HB2.out (by omega) (by unfold maxLen; omega) (by rw [Nat.zero_add]; exact Hdc.out) (by rw [Nat.zero_add]; exact Hd2.out)


theorem info_AOne : (Tryz.prog.info? 252).map (fun i => (i.zero, i.size, i.bytes)) = some (some (.agg #[.int .i64 0, .int .i64 0, .string ⟨#[]⟩]), 3, 32) := by kernel_rfl
set_option maxRecDepth 100000 in
set_option maxHeartbeats 400000 in
theorem delete_AOne {E w : World} {F : HP} (v : Value) (l : List AOne) (i : Nat) (h : SW E (RowOf 252 v l * F) w) (hn : l.length ≤ 1000000) (hi : i < l.length) :
    Calls Tryz.prog 229 #[v, .int .i64 i, .int .i64 (i + 1)] w fun e w' => ∃ v', e = .returned v' ∧ SW E (RowOf 252 v' (l.eraseIdx i) * F) w' := by
  obtain ⟨r, hr⟩ : ∃ r, l.length = i + 1 + r := ⟨l.length - (i + 1), by omega⟩
  rcases SW.row_form h with ⟨_, h0, _⟩ | ⟨g, cap, cur, rfl, hnc, hm, hs, ht, hb⟩
  · omega
  rw [hr] at hnc hn ht ⊢
  unfold maxLen at hm
  have hdn := delete_news cur l i r ht
  have hdc := delete_cells cur l i r cap hr hs hnc ht (Builtin.zeroCells (Value.cells (.agg #[.int .i64 0, .int .i64 0, .string ⟨#[]⟩])) 1).toList (by rw [zeroCells_len, Nat.one_mul]; rfl)
  have hlen : (enc (l.drop (i + 1))).length = r * 3 := by rw [enc_length, List.length_drop, show l.length - (i + 1) = r by omega]; rfl
  have hone := enc_one (l.drop (i + 1))
  have hel : (l.eraseIdx i).length = i + r := by rw [List.length_eraseIdx, if_pos hi]; omega
  generalize enc (l.drop (i + 1)) = news at *
  have hs' : cur.size = cap * 3 := hs
  have hdn' : ∀ t u, news[t]? = some u → cur[(i + 1) * 3 + t]? = some u := hdn
  have hdc' := hdc.1
  change (overlay (overlay cur (i * 3) news) ((i + r) * 3) _).size = cap * 3 at hdc'
  have Hd2 := Lib.hid hdc.2
  obtain ⟨A, hA, hsrc⟩ : ∃ A : Addr, (if cap = i + 1 then some (⟨g, 0, none⟩ : Addr) else some ⟨g, (i + 1) * 3, none⟩) = some A ∧ Hid (∀ t u, news[t]? = some u → w.drew.cell? (A.add t) = some u) := by
    by_cases h : cap = i + 1
    · refine ⟨⟨g, 0, none⟩, by simp [h], fun t u hu => ?_⟩
      have h0 : news.length = 0 := by rw [hlen]; omega
      rw [List.length_eq_zero_iff.1 h0] at hu
      simp at hu
    · refine ⟨⟨g, (i + 1) * 3, none⟩, by simp [h], fun t u hu => ?_⟩
      rw [Addr.add_lit]
      exact (hb.cell _).trans (by simpa using hdn' t u hu)
  have s1 : Hid (news.length = r * 3) := hlen
  have s2 : Hid (∀ u ∈ news, u.oneCell' = true) := hone
  have s3 : Hid (∀ t, t < news.length → (w.drew.cell? ⟨g, 0 + i * 3 + t, none⟩).isSome = true ∧ w.drew.frozen? ⟨g, 0 + i * 3 + t, none⟩ = false) := by
    intro t ht'
    rw [hlen] at ht'
    exact ⟨hb.some _ (by rw [hs']; omega), hb.frozen _⟩
  have hb1 := (hb.drew).setCells news (i * 3) cur
  obtain ⟨W1, hW1⟩ : ∃ W1, W1 = w.drew.setCells g (0 + i * 3) news := ⟨_, rfl⟩
  rw [← Nat.zero_add (i * 3), ← hW1] at hb1
  have hcl : ∀ ty, (Builtin.clear_ #[115] ty #[.slice (some ⟨g, (i + r) * 3, none⟩) (i + 1 + r - (i + r)) (cap - (i + r))]).run Tryz.prog W1 = .ok (.tuple #[]) (W1.setCells g ((i + r) * 3) (Builtin.zeroCells (Value.cells (.agg #[.int .i64 0, .int .i64 0, .string ⟨#[]⟩])) 1).toList) :=
    fun ty => by
      rw [show i + 1 + r - (i + r) = 1 by omega]
      exact run_clear_rows W1 115 252 ty (.agg #[.int .i64 0, .int .i64 0, .string ⟨#[]⟩]) Tryz.underlying115 (fun w => by kernel_rfl) (by simp [Value.cells, Value.oneCell']) g ((i + r) * 3) 1 _ (by decide) (by decide)
        (fun j hj => hb1.some _ (by rw [overlay_size, hs']; have hj' : j < 1 * 3 := hj; omega)) (fun j hj => hb1.frozen _)
  have hb2 := hb1.setCells (Builtin.zeroCells (Value.cells (.agg #[.int .i64 0, .int .i64 0, .string ⟨#[]⟩])) 1).toList ((i + r) * 3) _
  have HB2 := Lib.hid hb2
  have HW : Hid (W1 = w.drew.setCells g (0 + i * 3) news) := hW1
  have Hdc := Lib.hid hdc'
  have Hel := Lib.hid hel
  obtain ⟨i0, hi0, hz0, hz1, hz2⟩ := info_parts info_AOne
  have hic : i ≤ cap := by omega
  have hjc : i + 1 ≤ cap := by omega
  have hq1 : (0 : Int) ≤ (i : Int) + 1 := by omega
  have hq2 : (i : Int) + 1 ≤ (i : Int) + 1 + (r : Int) := by omega
  clear h hb hb1 hb2 hW1 hr ht hi hs hs' hdn hdn' hdc hdc' hlen hone hel
  go_enter Tryz.func229, Tryz.ntmps229
  go_wp2_with fail
  go_region_law (refine step_append_room rfl (.tmp 22) (.tmp 25) 115 rfl 252 i0 3 Tryz.underlying115 hi0 hz1 g 0 i cap (by simp [Act.eval, Act.put]) A r (cap - (i + 1)) news (by simp [Act.eval, Act.put]) s1.out hsrc.out s2.out (by omega) s3.out ?_; rw [← HW.out])
  go_wp2
  go_ret
  refine ⟨.slice (some ⟨g, 0, none⟩) (i + r) cap, rfl, ?_⟩
  rw [show RowOf 252 (.slice (some ⟨g, 0, none⟩) (i + r) cap) (l.eraseIdx i) = Row 252 (Enc.sz AOne) (.slice (some ⟨g, 0, none⟩) (i + r) cap) (i + r) (enc (l.eraseIdx i)) by unfold RowOf; rw [Hel.out]]
  exact SW.row_of_blk HB2.out (by omega) (by unfold maxLen; omega) (by rw [Nat.zero_add]; exact Hdc.out) (by rw [Nat.zero_add]; exact Hd2.out)


theorem info_Host : (Tryz.prog.info? 396).map (fun i => (i.zero, i.size, i.bytes)) = some (some (.agg #[.string ⟨#[]⟩, .int .i64 0]), 2, 24) := by kernel_rfl
set_option maxRecDepth 100000 in
set_option maxHeartbeats 400000 in
theorem delete_Host {E w : World} {F : HP} (v : Value) (l : List Host) (i : Nat) (h : SW E (RowOf 396 v l * F) w) (hn : l.length ≤ 1000000) (hi : i < l.length) :
    Calls Tryz.prog 318 #[v, .int .i64 i, .int .i64 (i + 1)] w fun e w' => ∃ v', e = .returned v' ∧ SW E (RowOf 396 v' (l.eraseIdx i) * F) w' := by
  obtain ⟨r, hr⟩ : ∃ r, l.length = i + 1 + r := ⟨l.length - (i + 1), by omega⟩
  rcases SW.row_form h with ⟨_, h0, _⟩ | ⟨g, cap, cur, rfl, hnc, hm, hs, ht, hb⟩
  · omega
  rw [hr] at hnc hn ht ⊢
  unfold maxLen at hm
  have hdn := delete_news cur l i r ht
  have hdc := delete_cells cur l i r cap hr hs hnc ht (Builtin.zeroCells (Value.cells (.agg #[.string ⟨#[]⟩, .int .i64 0])) 1).toList (by rw [zeroCells_len, Nat.one_mul]; rfl)
  have hlen : (enc (l.drop (i + 1))).length = r * 2 := by rw [enc_length, List.length_drop, show l.length - (i + 1) = r by omega]; rfl
  have hone := enc_one (l.drop (i + 1))
  have hel : (l.eraseIdx i).length = i + r := by rw [List.length_eraseIdx, if_pos hi]; omega
  generalize enc (l.drop (i + 1)) = news at *
  have hs' : cur.size = cap * 2 := hs
  have hdn' : ∀ t u, news[t]? = some u → cur[(i + 1) * 2 + t]? = some u := hdn
  have hdc' := hdc.1
  change (overlay (overlay cur (i * 2) news) ((i + r) * 2) _).size = cap * 2 at hdc'
  have Hd2 := Lib.hid hdc.2
  obtain ⟨A, hA, hsrc⟩ : ∃ A : Addr, (if cap = i + 1 then some (⟨g, 0, none⟩ : Addr) else some ⟨g, (i + 1) * 2, none⟩) = some A ∧ Hid (∀ t u, news[t]? = some u → w.drew.cell? (A.add t) = some u) := by
    by_cases h : cap = i + 1
    · refine ⟨⟨g, 0, none⟩, by simp [h], fun t u hu => ?_⟩
      have h0 : news.length = 0 := by rw [hlen]; omega
      rw [List.length_eq_zero_iff.1 h0] at hu
      simp at hu
    · refine ⟨⟨g, (i + 1) * 2, none⟩, by simp [h], fun t u hu => ?_⟩
      rw [Addr.add_lit]
      exact (hb.cell _).trans (by simpa using hdn' t u hu)
  have s1 : Hid (news.length = r * 2) := hlen
  have s2 : Hid (∀ u ∈ news, u.oneCell' = true) := hone
  have s3 : Hid (∀ t, t < news.length → (w.drew.cell? ⟨g, 0 + i * 2 + t, none⟩).isSome = true ∧ w.drew.frozen? ⟨g, 0 + i * 2 + t, none⟩ = false) := by
    intro t ht'
    rw [hlen] at ht'
    exact ⟨hb.some _ (by rw [hs']; omega), hb.frozen _⟩
  have hb1 := (hb.drew).setCells news (i * 2) cur
  obtain ⟨W1, hW1⟩ : ∃ W1, W1 = w.drew.setCells g (0 + i * 2) news := ⟨_, rfl⟩
  rw [← Nat.zero_add (i * 2), ← hW1] at hb1
  have hcl : ∀ ty, (Builtin.clear_ #[157] ty #[.slice (some ⟨g, (i + r) * 2, none⟩) (i + 1 + r - (i + r)) (cap - (i + r))]).run Tryz.prog W1 = .ok (.tuple #[]) (W1.setCells g ((i + r) * 2) (Builtin.zeroCells (Value.cells (.agg #[.string ⟨#[]⟩, .int .i64 0])) 1).toList) :=
    fun ty => by
      rw [show i + 1 + r - (i + r) = 1 by omega]
      exact run_clear_rows W1 157 396 ty (.agg #[.string ⟨#[]⟩, .int .i64 0]) Tryz.underlying157 (fun w => by kernel_rfl) (by simp [Value.cells, Value.oneCell']) g ((i + r) * 2) 1 _ (by decide) (by decide)
        (fun j hj => hb1.some _ (by rw [overlay_size, hs']; have hj' : j < 1 * 2 := hj; omega)) (fun j hj => hb1.frozen _)
  have hb2 := hb1.setCells (Builtin.zeroCells (Value.cells (.agg #[.string ⟨#[]⟩, .int .i64 0])) 1).toList ((i + r) * 2) _
  have HB2 := Lib.hid hb2
  have HW : Hid (W1 = w.drew.setCells g (0 + i * 2) news) := hW1
  have Hdc := Lib.hid hdc'
  have Hel := Lib.hid hel
  obtain ⟨i0, hi0, hz0, hz1, hz2⟩ := info_parts info_Host
  have hic : i ≤ cap := by omega
  have hjc : i + 1 ≤ cap := by omega
  have hq1 : (0 : Int) ≤ (i : Int) + 1 := by omega
  have hq2 : (i : Int) + 1 ≤ (i : Int) + 1 + (r : Int) := by omega
  clear h hb hb1 hb2 hW1 hr ht hi hs hs' hdn hdn' hdc hdc' hlen hone hel
  go_enter Tryz.func318, Tryz.ntmps318
  go_wp2_with fail
  go_region_law (refine step_append_room rfl (.tmp 22) (.tmp 25) 157 rfl 396 i0 2 Tryz.underlying157 hi0 hz1 g 0 i cap (by simp [Act.eval, Act.put]) A r (cap - (i + 1)) news (by simp [Act.eval, Act.put]) s1.out hsrc.out s2.out (by omega) s3.out ?_; rw [← HW.out])
  go_wp2
  go_ret
  refine ⟨.slice (some ⟨g, 0, none⟩) (i + r) cap, rfl, ?_⟩
  rw [show RowOf 396 (.slice (some ⟨g, 0, none⟩) (i + r) cap) (l.eraseIdx i) = Row 396 (Enc.sz Host) (.slice (some ⟨g, 0, none⟩) (i + r) cap) (i + r) (enc (l.eraseIdx i)) by unfold RowOf; rw [Hel.out]]
  exact SW.row_of_blk HB2.out (by omega) (by unfold maxLen; omega) (by rw [Nat.zero_add]; exact Hdc.out) (by rw [Nat.zero_add]; exact Hd2.out)


theorem info_SOneV : (Tryz.prog.info? 354).map (fun i => (i.zero, i.size, i.bytes)) = some (some (.agg #[.int .i64 0, .string ⟨#[]⟩, .string ⟨#[]⟩, .bool false, .string ⟨#[]⟩, .string ⟨#[]⟩, .slice none 0 0]), 7, 104) := by kernel_rfl
set_option maxRecDepth 100000 in
set_option maxHeartbeats 400000 in
theorem delete_SOneV {E w : World} {F : HP} (v : Value) (l : List SOneV) (i : Nat) (h : SW E (RowOf 354 v l * F) w) (hn : l.length ≤ 1000000) (hi : i < l.length) :
    Calls Tryz.prog 270 #[v, .int .i64 i, .int .i64 (i + 1)] w fun e w' => ∃ v', e = .returned v' ∧ SW E (RowOf 354 v' (l.eraseIdx i) * F) w' := by
  obtain ⟨r, hr⟩ : ∃ r, l.length = i + 1 + r := ⟨l.length - (i + 1), by omega⟩
  rcases SW.row_form h with ⟨_, h0, _⟩ | ⟨g, cap, cur, rfl, hnc, hm, hs, ht, hb⟩
  · omega
  rw [hr] at hnc hn ht ⊢
  unfold maxLen at hm
  have hdn := delete_news cur l i r ht
  have hdc := delete_cells cur l i r cap hr hs hnc ht (Builtin.zeroCells (Value.cells (.agg #[.int .i64 0, .string ⟨#[]⟩, .string ⟨#[]⟩, .bool false, .string ⟨#[]⟩, .string ⟨#[]⟩, .slice none 0 0])) 1).toList (by rw [zeroCells_len, Nat.one_mul]; rfl)
  have hlen : (enc (l.drop (i + 1))).length = r * 7 := by rw [enc_length, List.length_drop, show l.length - (i + 1) = r by omega]; rfl
  have hone := enc_one (l.drop (i + 1))
  have hel : (l.eraseIdx i).length = i + r := by rw [List.length_eraseIdx, if_pos hi]; omega
  generalize enc (l.drop (i + 1)) = news at *
  have hs' : cur.size = cap * 7 := hs
  have hdn' : ∀ t u, news[t]? = some u → cur[(i + 1) * 7 + t]? = some u := hdn
  have hdc' := hdc.1
  change (overlay (overlay cur (i * 7) news) ((i + r) * 7) _).size = cap * 7 at hdc'
  have Hd2 := Lib.hid hdc.2
  obtain ⟨A, hA, hsrc⟩ : ∃ A : Addr, (if cap = i + 1 then some (⟨g, 0, none⟩ : Addr) else some ⟨g, (i + 1) * 7, none⟩) = some A ∧ Hid (∀ t u, news[t]? = some u → w.drew.cell? (A.add t) = some u) := by
    by_cases h : cap = i + 1
    · refine ⟨⟨g, 0, none⟩, by simp [h], fun t u hu => ?_⟩
      have h0 : news.length = 0 := by rw [hlen]; omega
      rw [List.length_eq_zero_iff.1 h0] at hu
      simp at hu
    · refine ⟨⟨g, (i + 1) * 7, none⟩, by simp [h], fun t u hu => ?_⟩
      rw [Addr.add_lit]
      exact (hb.cell _).trans (by simpa using hdn' t u hu)
  have s1 : Hid (news.length = r * 7) := hlen
  have s2 : Hid (∀ u ∈ news, u.oneCell' = true) := hone
  have s3 : Hid (∀ t, t < news.length → (w.drew.cell? ⟨g, 0 + i * 7 + t, none⟩).isSome = true ∧ w.drew.frozen? ⟨g, 0 + i * 7 + t, none⟩ = false) := by
    intro t ht'
    rw [hlen] at ht'
    exact ⟨hb.some _ (by rw [hs']; omega), hb.frozen _⟩
  have hb1 := (hb.drew).setCells news (i * 7) cur
  obtain ⟨W1, hW1⟩ : ∃ W1, W1 = w.drew.setCells g (0 + i * 7) news := ⟨_, rfl⟩
  rw [← Nat.zero_add (i * 7), ← hW1] at hb1
  have hcl : ∀ ty, (Builtin.clear_ #[112] ty #[.slice (some ⟨g, (i + r) * 7, none⟩) (i + 1 + r - (i + r)) (cap - (i + r))]).run Tryz.prog W1 = .ok (.tuple #[]) (W1.setCells g ((i + r) * 7) (Builtin.zeroCells (Value.cells (.agg #[.int .i64 0, .string ⟨#[]⟩, .string ⟨#[]⟩, .bool false, .string ⟨#[]⟩, .string ⟨#[]⟩, .slice none 0 0])) 1).toList) :=
    fun ty => by
      rw [show i + 1 + r - (i + r) = 1 by omega]
      exact run_clear_rows W1 112 354 ty (.agg #[.int .i64 0, .string ⟨#[]⟩, .string ⟨#[]⟩, .bool false, .string ⟨#[]⟩, .string ⟨#[]⟩, .slice none 0 0]) Tryz.underlying112 (fun w => by kernel_rfl) (by simp [Value.cells, Value.oneCell']) g ((i + r) * 7) 1 _ (by decide) (by decide)
        (fun j hj => hb1.some _ (by rw [overlay_size, hs']; have hj' : j < 1 * 7 := hj; omega)) (fun j hj => hb1.frozen _)
  have hb2 := hb1.setCells (Builtin.zeroCells (Value.cells (.agg #[.int .i64 0, .string ⟨#[]⟩, .string ⟨#[]⟩, .bool false, .string ⟨#[]⟩, .string ⟨#[]⟩, .slice none 0 0])) 1).toList ((i + r) * 7) _
  have HB2 := Lib.hid hb2
  have HW : Hid (W1 = w.drew.setCells g (0 + i * 7) news) := hW1
  have Hdc := Lib.hid hdc'
  have Hel := Lib.hid hel
  obtain ⟨i0, hi0, hz0, hz1, hz2⟩ := info_parts info_SOneV
  have hic : i ≤ cap := by omega
  have hjc : i + 1 ≤ cap := by omega
  have hq1 : (0 : Int) ≤ (i : Int) + 1 := by omega
  have hq2 : (i : Int) + 1 ≤ (i : Int) + 1 + (r : Int) := by omega
  clear h hb hb1 hb2 hW1 hr ht hi hs hs' hdn hdn' hdc hdc' hlen hone hel
  go_enter Tryz.func270, Tryz.ntmps270
  go_wp2_with fail
  go_region_law (refine step_append_room rfl (.tmp 22) (.tmp 25) 112 rfl 354 i0 7 Tryz.underlying112 hi0 hz1 g 0 i cap (by simp [Act.eval, Act.put]) A r (cap - (i + 1)) news (by simp [Act.eval, Act.put]) s1.out hsrc.out s2.out (by omega) s3.out ?_; rw [← HW.out])
  go_wp2
  go_ret
  refine ⟨.slice (some ⟨g, 0, none⟩) (i + r) cap, rfl, ?_⟩
  rw [show RowOf 354 (.slice (some ⟨g, 0, none⟩) (i + r) cap) (l.eraseIdx i) = Row 354 (Enc.sz SOneV) (.slice (some ⟨g, 0, none⟩) (i + r) cap) (i + r) (enc (l.eraseIdx i)) by unfold RowOf; rw [Hel.out]]
  exact SW.row_of_blk HB2.out (by omega) (by unfold maxLen; omega) (by rw [Nat.zero_add]; exact Hdc.out) (by rw [Nat.zero_add]; exact Hd2.out)


theorem info_Entry : (Tryz.prog.info? 297).map (fun i => (i.zero, i.size, i.bytes)) = some (some (.agg #[.string ⟨#[]⟩, .string ⟨#[]⟩, .bool false, .string ⟨#[]⟩, .string ⟨#[]⟩, .int .u64 0]), 6, 80) := by kernel_rfl
set_option maxRecDepth 100000 in
set_option maxHeartbeats 400000 in
theorem delete_Entry {E w : World} {F : HP} (v : Value) (l : List Entry) (i : Nat) (h : SW E (RowOf 297 v l * F) w) (hn : l.length ≤ 1000000) (hi : i < l.length) :
    Calls Tryz.prog 267 #[v, .int .i64 i, .int .i64 (i + 1)] w fun e w' => ∃ v', e = .returned v' ∧ SW E (RowOf 297 v' (l.eraseIdx i) * F) w' := by
  obtain ⟨r, hr⟩ : ∃ r, l.length = i + 1 + r := ⟨l.length - (i + 1), by omega⟩
  rcases SW.row_form h with ⟨_, h0, _⟩ | ⟨g, cap, cur, rfl, hnc, hm, hs, ht, hb⟩
  · omega
  rw [hr] at hnc hn ht ⊢
  unfold maxLen at hm
  have hdn := delete_news cur l i r ht
  have hdc := delete_cells cur l i r cap hr hs hnc ht (Builtin.zeroCells (Value.cells (.agg #[.string ⟨#[]⟩, .string ⟨#[]⟩, .bool false, .string ⟨#[]⟩, .string ⟨#[]⟩, .int .u64 0])) 1).toList (by rw [zeroCells_len, Nat.one_mul]; rfl)
  have hlen : (enc (l.drop (i + 1))).length = r * 6 := by rw [enc_length, List.length_drop, show l.length - (i + 1) = r by omega]; rfl
  have hone := enc_one (l.drop (i + 1))
  have hel : (l.eraseIdx i).length = i + r := by rw [List.length_eraseIdx, if_pos hi]; omega
  generalize enc (l.drop (i + 1)) = news at *
  have hs' : cur.size = cap * 6 := hs
  have hdn' : ∀ t u, news[t]? = some u → cur[(i + 1) * 6 + t]? = some u := hdn
  have hdc' := hdc.1
  change (overlay (overlay cur (i * 6) news) ((i + r) * 6) _).size = cap * 6 at hdc'
  have Hd2 := Lib.hid hdc.2
  obtain ⟨A, hA, hsrc⟩ : ∃ A : Addr, (if cap = i + 1 then some (⟨g, 0, none⟩ : Addr) else some ⟨g, (i + 1) * 6, none⟩) = some A ∧ Hid (∀ t u, news[t]? = some u → w.drew.cell? (A.add t) = some u) := by
    by_cases h : cap = i + 1
    · refine ⟨⟨g, 0, none⟩, by simp [h], fun t u hu => ?_⟩
      have h0 : news.length = 0 := by rw [hlen]; omega
      rw [List.length_eq_zero_iff.1 h0] at hu
      simp at hu
    · refine ⟨⟨g, (i + 1) * 6, none⟩, by simp [h], fun t u hu => ?_⟩
      rw [Addr.add_lit]
      exact (hb.cell _).trans (by simpa using hdn' t u hu)
  have s1 : Hid (news.length = r * 6) := hlen
  have s2 : Hid (∀ u ∈ news, u.oneCell' = true) := hone
  have s3 : Hid (∀ t, t < news.length → (w.drew.cell? ⟨g, 0 + i * 6 + t, none⟩).isSome = true ∧ w.drew.frozen? ⟨g, 0 + i * 6 + t, none⟩ = false) := by
    intro t ht'
    rw [hlen] at ht'
    exact ⟨hb.some _ (by rw [hs']; omega), hb.frozen _⟩
  have hb1 := (hb.drew).setCells news (i * 6) cur
  obtain ⟨W1, hW1⟩ : ∃ W1, W1 = w.drew.setCells g (0 + i * 6) news := ⟨_, rfl⟩
  rw [← Nat.zero_add (i * 6), ← hW1] at hb1
  have hcl : ∀ ty, (Builtin.clear_ #[100] ty #[.slice (some ⟨g, (i + r) * 6, none⟩) (i + 1 + r - (i + r)) (cap - (i + r))]).run Tryz.prog W1 = .ok (.tuple #[]) (W1.setCells g ((i + r) * 6) (Builtin.zeroCells (Value.cells (.agg #[.string ⟨#[]⟩, .string ⟨#[]⟩, .bool false, .string ⟨#[]⟩, .string ⟨#[]⟩, .int .u64 0])) 1).toList) :=
    fun ty => by
      rw [show i + 1 + r - (i + r) = 1 by omega]
      exact run_clear_rows W1 100 297 ty (.agg #[.string ⟨#[]⟩, .string ⟨#[]⟩, .bool false, .string ⟨#[]⟩, .string ⟨#[]⟩, .int .u64 0]) Tryz.underlying100 (fun w => by kernel_rfl) (by simp [Value.cells, Value.oneCell']) g ((i + r) * 6) 1 _ (by decide) (by decide)
        (fun j hj => hb1.some _ (by rw [overlay_size, hs']; have hj' : j < 1 * 6 := hj; omega)) (fun j hj => hb1.frozen _)
  have hb2 := hb1.setCells (Builtin.zeroCells (Value.cells (.agg #[.string ⟨#[]⟩, .string ⟨#[]⟩, .bool false, .string ⟨#[]⟩, .string ⟨#[]⟩, .int .u64 0])) 1).toList ((i + r) * 6) _
  have HB2 := Lib.hid hb2
  have HW : Hid (W1 = w.drew.setCells g (0 + i * 6) news) := hW1
  have Hdc := Lib.hid hdc'
  have Hel := Lib.hid hel
  obtain ⟨i0, hi0, hz0, hz1, hz2⟩ := info_parts info_Entry
  have hic : i ≤ cap := by omega
  have hjc : i + 1 ≤ cap := by omega
  have hq1 : (0 : Int) ≤ (i : Int) + 1 := by omega
  have hq2 : (i : Int) + 1 ≤ (i : Int) + 1 + (r : Int) := by omega
  clear h hb hb1 hb2 hW1 hr ht hi hs hs' hdn hdn' hdc hdc' hlen hone hel
  go_enter Tryz.func267, Tryz.ntmps267
  go_wp2_with fail
  go_region_law (refine step_append_room rfl (.tmp 22) (.tmp 25) 100 rfl 297 i0 6 Tryz.underlying100 hi0 hz1 g 0 i cap (by simp [Act.eval, Act.put]) A r (cap - (i + 1)) news (by simp [Act.eval, Act.put]) s1.out hsrc.out s2.out (by omega) s3.out ?_; rw [← HW.out])
  go_wp2
  go_ret
  refine ⟨.slice (some ⟨g, 0, none⟩) (i + r) cap, rfl, ?_⟩
  rw [show RowOf 297 (.slice (some ⟨g, 0, none⟩) (i + r) cap) (l.eraseIdx i) = Row 297 (Enc.sz Entry) (.slice (some ⟨g, 0, none⟩) (i + r) cap) (i + r) (enc (l.eraseIdx i)) by unfold RowOf; rw [Hel.out]]
  exact SW.row_of_blk HB2.out (by omega) (by unfold maxLen; omega) (by rw [Nat.zero_add]; exact Hdc.out) (by rw [Nat.zero_add]; exact Hd2.out)

end Go.Proofs.Lk
