/- append of one element, and of a row, onto a row of one's own. Conditions: fewer than 1,000,000 elements, each of at most 1,000 bytes. -/
import Derived.Test.YtkadikbajkjmaaaGreatDoorDat
import Derived.Maps.AppendAt
import Derived.RegionTactic
import Derived.Deep.RegionLaw
namespace Go.Proofs.Lk
open Go Go.RowKit
section
variable {P : Program} {E w : World} {F : HP} {α : Type} [Enc α]

/-- What is asked of a type of elements. -/
structure ElemOk (P : Program) (t e : TypeId) (size : Nat) : Prop where
  ht : P.underlying t = some (.slice e)
  hi : ∃ i z, P.info? e = some i ∧ i.zero = some z ∧ i.size = size ∧ i.bytes ≤ 1000 ∧ z.cells.size = size
  pos : 0 < size

theorem ElemOk.of {t e : TypeId} {size bytes : Nat} {z : Value} (ht : P.underlying t = some (.slice e)) (h : (P.info? e).map (fun i => (i.zero, i.size, i.bytes)) = some (some z, size, bytes)) (hb : bytes ≤ 1000) (hz : z.cells.size = size) (hp : 0 < size) : ElemOk P t e size := by
  obtain ⟨i, hi, h1, h2, h3⟩ := info_parts h
  exact ⟨ht, ⟨i, z, hi, h1, h2, by omega, hz⟩, hp⟩

theorem run_append1 {t e ty : TypeId} (ok : ElemOk P t e (Enc.sz α)) {v : Value} {l : List α} (h : SW E (RowOf e v l * F) w) (hn : l.length ≤ 1000000) (ad : Addr) (m c : Nat) (xs : List α) (hm : xs.length = m) (hm2 : m ≤ 1000000)
    (hx : ∀ j u, (enc xs)[j]? = some u → w.cell? (ad.add j) = some u) :
    ∃ a' c' w', (Builtin.append_ #[t, t] ty #[v, .slice (some ad) m c]).run P w = .ok (.slice a' (l.length + m) c') w' ∧ SW E (RowOf e (.slice a' (l.length + m) c') (l ++ xs) * F) w' ∧ w.grownBy w' v.ownBlock := by
  obtain ⟨i, z, hi, h1, h2, h3, h4⟩ := ok.hi
  subst hm
  obtain ⟨v', w', hr, ho, hg, _, hat⟩ := run_append_own_at (P := P) w 0 t ty e i z (Enc.sz α) i.bytes ok.ht hi h1 h2 rfl h4 ok.pos v l.length (enc l) h.owns ad xs.length c (enc xs) (enc_length xs) hx (enc_one xs)
    (by unfold maxLen; omega) (by
      have : (l.length + xs.length) * i.bytes ≤ 2000000 * 1000 := Nat.mul_le_mul (by omega) h3
      omega) (Nat.zero_le _)
  have h5 : SW E (RowOf e v' (l ++ xs) * F) w' := by
    have := h.grown ho hg hat
    unfold RowOf
    rw [List.length_append, enc_append]
    exact this
  obtain ⟨a', c', rfl⟩ := h5.row_slice
  rw [List.length_append] at h5 hr
  exact ⟨a', c', w', hr, h5, hg⟩

theorem wp_append1 {o : Oper} {a : Act} {K : Act → World → Prop} {Q : Exit → Act → World → Prop} (s x : Operand) (t : TypeId)
    (ho : o.op = .call { callee := .builtin .append, args := #[s, x], argTypes := #[t, t] }) {e : TypeId} (ok : ElemOk P t e (Enc.sz α)) {v : Value} {l : List α} (hs : a.eval s = v)
    (h : SW E (RowOf e v l * F) w) (hn : l.length ≤ 1000000) (ad : Addr) (m c : Nat) (xs : List α) (hxv : a.eval x = .slice (some ad) m c) (hm : xs.length = m) (hm2 : m ≤ 1000000) (hx : ∀ j u, (enc xs)[j]? = some u → w.cell? (ad.add j) = some u)
    (hk : ∀ a' c' w', SW E (RowOf e (.slice a' (l.length + m) c') (l ++ xs) * F) w' → w.grownBy w' v.ownBlock → K (a.put o.dst (.slice a' (l.length + m) c')) w') : o.wp P a w K Q := by
  obtain ⟨a', c', w', hr, h2, h3⟩ := run_append1 (P := P) (ty := o.type) ok h hn ad m c xs hm hm2 hx
  unfold Oper.wp execOp
  simp only [ho, resolve, invoke, builtin, Sem.run_bind, Sem.run_pure, Result.andThen_ok, List.map_toArray, List.map_cons, List.map_nil, hs, hxv, hr]
  exact hk a' c' w' h2 h3

theorem wpList_append1 {ops : Array Oper} {rest : List Oper} {o : Oper} {a : Act} {Q : Exit → Act → World → Prop} (hgd : o.guard = none) (s x : Operand) (t : TypeId)
    (ho : o.op = .call { callee := .builtin .append, args := #[s, x], argTypes := #[t, t] }) {e : TypeId} (ok : ElemOk P t e (Enc.sz α)) {v : Value} {l : List α} (hs : a.eval s = v)
    (h : SW E (RowOf e v l * F) w) (hn : l.length ≤ 1000000) (ad : Addr) (m c : Nat) (xs : List α) (hxv : a.eval x = .slice (some ad) m c) (hm : xs.length = m) (hm2 : m ≤ 1000000) (hx : ∀ j u, (enc xs)[j]? = some u → w.cell? (ad.add j) = some u)
    (hk : ∀ a' c' w', SW E (RowOf e (.slice a' (l.length + m) c') (l ++ xs) * F) w' → w.grownBy w' v.ownBlock → wpList P ops Q rest (a.put o.dst (.slice a' (l.length + m) c')) w') : wpList P ops Q (o :: rest) a w :=
  wpList_plain hgd fun _ hK => wp_append1 s x t ho ok hs h hn ad m c xs hxv hm hm2 hx fun a' c' w' h2 h3 => hK _ _ (hk a' c' w' h2 h3)

theorem step_append1 {ops : Array Oper} {o : Oper} {a : Act} {K : Act → World → Prop} {Q : Exit → Act → World → Prop} {X : Prop} (hgd : o.guard = none) (s x : Operand) (t : TypeId)
    (ho : o.op = .call { callee := .builtin .append, args := #[s, x], argTypes := #[t, t] }) {e : TypeId} (ok : ElemOk P t e (Enc.sz α)) {v : Value} {l : List α} (hs : a.eval s = v)
    (h : SW E (RowOf e v l * F) w) (hn : l.length ≤ 1000000) (ad : Addr) (m c : Nat) (xs : List α) (hxv : a.eval x = .slice (some ad) m c) (hm : xs.length = m) (hm2 : m ≤ 1000000) (hx : ∀ j u, (enc xs)[j]? = some u → w.cell? (ad.add j) = some u)
    (hk : ∀ a' c' w', SW E (RowOf e (.slice a' (l.length + m) c') (l ++ xs) * F) w' → w.grownBy w' v.ownBlock → K (a.put o.dst (.slice a' (l.length + m) c')) w') :
    if Region.wanted o (yielded ops a.tmps) = true then Oper.wp P o a w K Q else X := by
  have hw : Region.wanted o (yielded ops a.tmps) = true := by simp [Region.wanted, hgd]
  rw [if_pos hw]
  exact wp_append1 s x t ho ok hs h hn ad m c xs hxv hm hm2 hx hk

/-- The cells to be appended, out of a block that holds one element. -/
theorem news1 {w : World} {B : Nat} {T : TypeId} {f : Nat × Nat} (x : α) (hb : w.heap[B]? = some (.cells (Enc.cells x).toArray T f)) : ∀ j u, (enc [x])[j]? = some u → w.cell? ((⟨B, 0, none⟩ : Addr).add j) = some u := by
  have := World.news_of_block hb
  simpa [enc] using this
end
end Go.Proofs.Lk
