/- Rows of elements of several cells: their cells, how they are read, appended to, cut, cleared. Conditions: none; no program in it. -/
import Derived.Test.YtkadikbajkjmaaaGreatDoorSl
import Derived.Lib.Hide
import Derived.Lib.SliceRun
import Derived.Laws.IdiomCopy
import Derived.Shelf.Abstract
import Derived.Deep.Draws
namespace Go.Proofs.Lk
open Go Go.RowKit

instance : LawfulBEq ByteArray where
  eq_of_beq {a b} h := by
    cases a; cases b
    have h' : (_ == _) = true := h
    exact congrArg ByteArray.mk (eq_of_beq h')
  rfl {a} := by
    cases a
    exact BEq.rfl (α := Array UInt8)
theorem beq_sym {α : Type} [BEq α] [LawfulBEq α] (a b : α) : (a == b) = (b == a) := by
  rw [Bool.eq_iff_iff, beq_iff_eq, beq_iff_eq]
  exact ⟨Eq.symm, Eq.symm⟩
/-- How the walk spells a comparison of strings. -/
theorem str_beq (a b : ByteArray) : (a.toList == b.toList) = (a == b) := by
  rw [Bool.eq_iff_iff, beq_iff_eq, beq_iff_eq, ByteArray.toList_eq, ByteArray.toList_eq]
  constructor
  · intro h
    cases a; cases b
    simp at h
    rw [h]
  · intro h; rw [h]

class Enc (α : Type) where
  val : α → Value
  sz : Nat
  cells : α → List Value
  len : ∀ x, (cells x).length = sz
  one : ∀ x, ∀ u ∈ cells x, u.oneCell' = true
  pos : 0 < sz

section
variable {α : Type} [Enc α]
open Enc

def enc (l : List α) : List Value := l.flatMap cells

@[simp] theorem enc_nil : enc ([] : List α) = [] := rfl
@[simp] theorem enc_cons (x : α) (l : List α) : enc (x :: l) = cells x ++ enc l := rfl
theorem enc_append (l m : List α) : enc (l ++ m) = enc l ++ enc m := by simp [enc]
theorem enc_length (l : List α) : (enc l).length = l.length * sz α := by
  induction l with
  | nil => simp
  | cons x l ih => rw [enc_cons, List.length_append, ih, Enc.len, List.length_cons, Nat.add_mul]; omega
theorem enc_one (l : List α) : ∀ u ∈ enc l, u.oneCell' = true := by
  intro u hu
  obtain ⟨x, _, hx⟩ := List.mem_flatMap.1 hu
  exact Enc.one x u hx
theorem enc_take (l : List α) (k : Nat) : (enc l).take (k * sz α) = enc (l.take k) := by
  induction l generalizing k with
  | nil => simp
  | cons x l ih =>
    cases k with
    | zero => simp
    | succ k =>
      rw [List.take_succ_cons, enc_cons, enc_cons, Nat.add_mul, Nat.one_mul, List.take_append, Enc.len, List.take_of_length_le (by rw [Enc.len]; omega), Nat.add_sub_cancel, ih]
theorem enc_drop (l : List α) (k : Nat) : (enc l).drop (k * sz α) = enc (l.drop k) := by
  induction l generalizing k with
  | nil => simp
  | cons x l ih =>
    cases k with
    | zero => simp
    | succ k =>
      rw [List.drop_succ_cons, enc_cons, Nat.add_mul, Nat.one_mul, List.drop_append, Enc.len, List.drop_eq_nil_of_le (by rw [Enc.len]; omega), Nat.add_sub_cancel, ih, List.nil_append]
theorem enc_get (l : List α) (k j : Nat) (hk : k < l.length) (hj : j < sz α) : (enc l)[k * sz α + j]? = (cells l[k])[j]? := by
  induction l generalizing k with
  | nil => simp at hk
  | cons x l ih =>
    cases k with
    | zero =>
      rw [enc_cons, Nat.zero_mul, Nat.zero_add, List.getElem?_append_left (by rw [Enc.len]; exact hj)]
      rfl
    | succ k =>
      rw [enc_cons, List.getElem?_append_right (by rw [Enc.len, Nat.add_mul]; omega), Enc.len, show (k + 1) * sz α + j - sz α = k * sz α + j by rw [Nat.add_mul]; omega, ih k (by simpa using hk)]
      rfl

/-- The slice v reads as l in w. -/
def RowsIn (w : World) (v : Value) (l : List α) : Prop :=
  (v = .slice none 0 0 ∧ l = []) ∨ ∃ b off cap, v = .slice (some ⟨b, off, none⟩) l.length cap ∧ ∀ k (hk : k < l.length) j, j < sz α → w.cell? ⟨b, off + k * sz α + j, none⟩ = (cells l[k])[j]?

theorem RowsIn.lt {w : World} {b off : Nat} {l : List α} (h : ∀ k (hk : k < l.length) j, j < sz α → w.cell? ⟨b, off + k * sz α + j, none⟩ = (cells l[k])[j]?) (hl : 0 < l.length) : b < w.heap.size := by
  have h1 := h 0 hl 0 Enc.pos
  have h2 : (cells l[0])[0]? = some ((cells l[0])[0]'(by rw [Enc.len]; exact Enc.pos)) := List.getElem?_eq_getElem _
  rw [h2] at h1
  exact World.block_lt_of_cell? w _ h1

theorem RowsIn.below {w w' : World} {v : Value} {l : List α} (h : RowsIn w v l) (hb : Below w.heap.size w w') : RowsIn w' v l := by
  rcases h with h | ⟨b, off, cap, hv, hc⟩
  · exact .inl h
  · refine .inr ⟨b, off, cap, hv, fun k hk j hj => ?_⟩
    rw [hb.cell (p := ⟨b, _, none⟩) (RowsIn.lt hc (by omega))]
    exact hc k hk j hj

theorem RowsIn.drewN {w : World} {v : Value} {l : List α} (h : RowsIn w v l) (n : Nat) : RowsIn (w.drewN n) v l := h

theorem RowsIn.drew {w : World} {v : Value} {l : List α} (h : RowsIn w v l) : RowsIn w.drew v l := h

/-- A row of one's own, of elements. -/
def RowOf (T : TypeId) (v : Value) (l : List α) : HP := Row T (sz α) v l.length (enc l)

variable {E w w' : World} {F : HP} {T : TypeId} {v v' : Value} {l : List α}

theorem SW.rows (h : SW E (RowOf T v l * F) w) : RowsIn w v l := by
  rcases SW.row_form h with ⟨hv, hn, _⟩ | ⟨g, cap, cur, hv, hn, hm, hs, ht, hb⟩
  · exact .inl ⟨hv, List.eq_nil_of_length_eq_zero hn⟩
  · refine .inr ⟨g, 0, cap, hv, fun k hk j hj => ?_⟩
    rw [hb.cell, Nat.zero_add, ← enc_get l k j hk hj, ← ht, List.getElem?_take, Array.getElem?_toList, if_pos]
    calc k * sz α + j < k * sz α + sz α := by omega
      _ = (k + 1) * sz α := by rw [Nat.add_mul, Nat.one_mul]
      _ ≤ l.length * sz α := Nat.mul_le_mul_right _ hk

theorem SW.row_slice (h : SW E (RowOf T v l * F) w) : ∃ a c, v = .slice a l.length c := by
  rcases SW.row_form h with ⟨hv, hn, _⟩ | ⟨g, cap, cur, hv, _⟩
  · exact ⟨none, 0, by rw [hv, hn]⟩
  · exact ⟨_, _, hv⟩

theorem SW.rowOf_nil (h : SW E F w) (T : TypeId) : SW E (RowOf T (.slice none 0 0) ([] : List α) * F) w := h.row_nil T (sz α)

end

/-! ### Many cells stored in a block of one's own -/
section
variable {E w w' : World} {F : HP} {T : TypeId}

/-- An array with some cells overwritten. -/
def overlay (c : Array Value) (o : Nat) : List Value → Array Value
  | [] => c
  | v :: r => overlay (c.setIfInBounds o v) (o + 1) r

theorem overlay_size (r : List Value) : ∀ (c : Array Value) (o : Nat), (overlay c o r).size = c.size := by
  induction r with
  | nil => intro c o; rfl
  | cons v r ih => intro c o; rw [overlay, ih]; simp

theorem overlay_list (r : List Value) : ∀ (c : Array Value) (o : Nat), o + r.length ≤ c.size → (overlay c o r).toList = c.toList.take o ++ r ++ c.toList.drop (o + r.length) := by
  induction r with
  | nil => intro c o _; simp [overlay]
  | cons v r ih =>
    intro c o h
    simp only [List.length_cons] at h
    rw [overlay, ih _ _ (by simp; omega)]
    simp only [Array.toList_setIfInBounds, List.length_cons]
    rw [List.take_succ_eq_append_getElem (by simp; omega), List.getElem_set_self, List.take_set_of_le (Nat.le_refl o), List.drop_set_of_lt (by omega), show o + 1 + r.length = o + (r.length + 1) by omega]
    simp

theorem SW.setCells {b : Nat} : ∀ (r : List Value) (o : Nat) (c : Array Value) (w : World), SW E (blk b (.cells c T (0, 0)) * F) w → SW E (blk b (.cells (overlay c o r) T (0, 0)) * F) (w.setCells b o r)
  | [], _, _, _, h => h
  | v :: r, o, c, _, h => SW.setCells r (o + 1) (c.setIfInBounds o v) _ (h.set v)

theorem SW.some {b : Nat} {c : Array Value} {f : Nat × Nat} (h : SW E (blk b (.cells c T f) * F) w) (k : Nat) (hk : k < c.size) : (w.cell? ⟨b, k, none⟩).isSome = true := by
  rw [h.cell, Array.getElem?_eq_getElem hk]; rfl
end
end Go.Proofs.Lk
