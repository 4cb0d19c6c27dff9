/- Separation logic over the model's memory: partial heaps, the star, and how a world that meets an assertion changes under the moves of a walk. Conditions: none; no program in it. -/
import Derived.WalkKit
import Derived.KernelRfl
import Derived.Deep.AppendLies
namespace Go.Proofs.Lk
open Go Go.RowKit

def PH := Nat → Option Obj
def HP := PH → Prop
def HP.star (A B : HP) : HP := fun h => ∃ h1 h2 : PH, (∀ b, h1 b = none ∨ h2 b = none) ∧ (h = fun b => (h1 b).or (h2 b)) ∧ A h1 ∧ B h2
instance : Mul HP := ⟨HP.star⟩
def emp : HP := fun h => ∀ b, h b = none
def blk (b : Nat) (o : Obj) : HP := fun h => h b = some o ∧ ∀ b', b' ≠ b → h b' = none
def pur (p : Prop) : HP := fun h => p ∧ ∀ b, h b = none
def ex {α : Type} (A : α → HP) : HP := fun h => ∃ x, A x h

theorem star_iff {A B : HP} {h : PH} : (A * B) h ↔ ∃ h1 h2 : PH, (∀ b, h1 b = none ∨ h2 b = none) ∧ (h = fun b => (h1 b).or (h2 b)) ∧ A h1 ∧ B h2 := Iff.rfl

theorem or_comm_of {a b : Option Obj} (h : a = none ∨ b = none) : a.or b = b.or a := by
  rcases h with rfl | rfl <;> simp

theorem star_comm (A B : HP) : A * B = B * A := by
  funext h
  refine propext ⟨?_, ?_⟩ <;>
  · rintro ⟨h1, h2, hd, rfl, ha, hb⟩
    exact ⟨h2, h1, fun b => (hd b).symm, funext fun b => or_comm_of (hd b), hb, ha⟩

theorem star_assoc (A B C : HP) : A * B * C = A * (B * C) := by
  funext h
  refine propext ⟨?_, ?_⟩
  · rintro ⟨h12, h3, hd, rfl, ⟨h1, h2, hd', rfl, ha, hb⟩, hc⟩
    refine ⟨h1, fun b => (h2 b).or (h3 b), fun b => ?_, funext fun b => Option.or_assoc, ha, h2, h3, fun b => ?_, rfl, hb, hc⟩
    · have e1 := hd b
      have e2 := hd' b
      revert e1 e2
      dsimp only
      cases h1 b <;> cases h2 b <;> cases h3 b <;> simp
    · have e1 := hd b
      have e2 := hd' b
      revert e1 e2
      dsimp only
      cases h1 b <;> cases h2 b <;> cases h3 b <;> simp
  · rintro ⟨h1, h23, hd, rfl, ha, ⟨h2, h3, hd', rfl, hb, hc⟩⟩
    refine ⟨fun b => (h1 b).or (h2 b), h3, fun b => ?_, funext fun b => Option.or_assoc.symm, ⟨h1, h2, fun b => ?_, rfl, ha, hb⟩, hc⟩
    · have e1 := hd b
      have e2 := hd' b
      revert e1 e2
      dsimp only
      cases h1 b <;> cases h2 b <;> cases h3 b <;> simp
    · have e1 := hd b
      have e2 := hd' b
      revert e1 e2
      dsimp only
      cases h1 b <;> cases h2 b <;> cases h3 b <;> simp

instance : Std.Associative (α := HP) (· * ·) := ⟨star_assoc⟩
instance : Std.Commutative (α := HP) (· * ·) := ⟨star_comm⟩

theorem emp_star (A : HP) : emp * A = A := by
  funext h
  refine propext ⟨?_, fun ha => ⟨fun _ => none, h, fun _ => .inl rfl, by simp, fun _ => rfl, ha⟩⟩
  rintro ⟨h1, h2, hd, rfl, he, ha⟩
  have : (fun b => (h1 b).or (h2 b)) = h2 := funext fun b => by simp [he b]
  rw [this]; exact ha

theorem star_emp (A : HP) : A * emp = A := by rw [star_comm, emp_star]

theorem pur_star {p : Prop} {A : HP} {h : PH} : (pur p * A) h ↔ p ∧ A h := by
  constructor
  · rintro ⟨h1, h2, hd, rfl, ⟨hp, he⟩, ha⟩
    have : (fun b => (h1 b).or (h2 b)) = h2 := funext fun b => by simp [he b]
    rw [this]; exact ⟨hp, ha⟩
  · rintro ⟨hp, ha⟩
    exact ⟨fun _ => none, h, fun _ => .inl rfl, by simp, ⟨hp, fun _ => rfl⟩, ha⟩

theorem ex_star {α : Type} {A : α → HP} {B : HP} : ex A * B = ex fun x => A x * B := by
  funext h
  refine propext ⟨?_, ?_⟩
  · rintro ⟨h1, h2, hd, rfl, ⟨x, ha⟩, hb⟩
    exact ⟨x, h1, h2, hd, rfl, ha, hb⟩
  · rintro ⟨x, h1, h2, hd, rfl, ha, hb⟩
    exact ⟨h1, h2, hd, rfl, ⟨x, ha⟩, hb⟩

theorem star_mono {A A' B B' : HP} (ha : ∀ h, A h → A' h) (hb : ∀ h, B h → B' h) : ∀ h, (A * B) h → (A' * B') h := by
  rintro h ⟨h1, h2, hd, rfl, a, b⟩
  exact ⟨h1, h2, hd, rfl, ha _ a, hb _ b⟩

/-- The world w meets H; nothing outside memory has turned since E, and memory has not shrunk. -/
structure SW (E : World) (H : HP) (w : World) : Prop where
  os : w.os = E.os
  tape : w.tape = E.tape
  output : w.output = E.output
  size : E.heap.size ≤ w.heap.size
  sat : ∃ h : PH, (∀ b o, h b = some o → w.heap[b]? = some o) ∧ H h

section
variable {E w w' : World} {H A B F : HP}

theorem SW.imp {H' : HP} (h : SW E H w) (i : ∀ p, H p → H' p) : SW E H' w :=
  ⟨h.os, h.tape, h.output, h.size, let ⟨p, hp, hh⟩ := h.sat; ⟨p, hp, i p hh⟩⟩

theorem SW.perm {H' : HP} (h : SW E H w) (i : H = H') : SW E H' w := i ▸ h

theorem SW.right (h : SW E (A * B) w) : SW E B w :=
  ⟨h.os, h.tape, h.output, h.size, by
    obtain ⟨p, hp, h1, h2, hd, rfl, _, hb⟩ := h.sat
    refine ⟨h2, fun b o ho => hp b o ?_, hb⟩
    have := hd b
    simp [ho] at this
    simp [this, ho]⟩

theorem SW.left (h : SW E (A * B) w) : SW E A w := SW.right (h.perm (star_comm A B))

theorem SW.ex_elim {α : Type} {A : α → HP} (h : SW E (ex A * F) w) : ∃ x, SW E (A x * F) w := by
  rw [ex_star] at h
  obtain ⟨p, hp, x, hx⟩ := h.sat
  exact ⟨x, h.os, h.tape, h.output, h.size, p, hp, hx⟩

theorem SW.ex_intro {α : Type} {A : α → HP} (x : α) (h : SW E (A x * F) w) : SW E (ex A * F) w := by
  rw [ex_star]
  exact h.imp fun p hp => ⟨x, hp⟩

theorem SW.pur_elim {p : Prop} (h : SW E (pur p * F) w) : p ∧ SW E F w := by
  obtain ⟨q, hq, hh⟩ := h.sat
  rw [pur_star] at hh
  exact ⟨hh.1, h.os, h.tape, h.output, h.size, q, hq, hh.2⟩

theorem SW.pur_intro {p : Prop} (hp : p) (h : SW E F w) : SW E (pur p * F) w :=
  h.imp fun _ hh => pur_star.2 ⟨hp, hh⟩

theorem SW.get {b : Nat} {o : Obj} (h : SW E (blk b o * F) w) : w.heap[b]? = some o := by
  obtain ⟨p, hp, h1, h2, hd, rfl, ⟨hb, _⟩, _⟩ := h.sat
  exact hp b o (by simp [hb])

theorem SW.lt {b : Nat} {o : Obj} (h : SW E (blk b o * F) w) : b < w.heap.size := by
  have := h.get
  exact (Array.getElem?_eq_some_iff.1 this).1

theorem SW.cell {b : Nat} {c : Array Value} {T : TypeId} {f : Nat × Nat} (h : SW E (blk b (.cells c T f) * F) w) (k : Nat) : w.cell? ⟨b, k, none⟩ = c[k]? := by
  simp [World.cell?, h.get]

theorem SW.frozen {b : Nat} {c : Array Value} {T : TypeId} (h : SW E (blk b (.cells c T (0, 0)) * F) w) (k : Nat) : w.frozen? ⟨b, k, none⟩ = false := by
  simp [World.frozen?, h.get]

theorem SW.ne {b b' : Nat} {o o' : Obj} (h : SW E (blk b o * (blk b' o' * F)) w) : b ≠ b' := by
  rintro rfl
  obtain ⟨p, hp, h1, h2, hd, rfl, ⟨hb, _⟩, h3, h4, hd', rfl, ⟨hb', _⟩, _⟩ := h.sat
  have := hd b
  simp [hb, hb'] at this

theorem SW.drew (h : SW E H w) : SW E H w.drew := ⟨h.os, h.tape, h.output, h.size, h.sat⟩

theorem SW.undrew (h : SW E H w.drew) : SW E H w := ⟨h.os, h.tape, h.output, h.size, h.sat⟩

theorem SW.below (h : SW E H w) (hb : Below w.heap.size w w') : SW E H w' :=
  ⟨hb.os.trans h.os, hb.tape.trans h.tape, hb.output.trans h.output, Nat.le_trans h.size hb.size, by
    obtain ⟨p, hp, hh⟩ := h.sat
    refine ⟨p, fun b o ho => ?_, hh⟩
    have h1 := hp b o ho
    rw [hb.block b (Array.getElem?_eq_some_iff.1 h1).1]; exact h1⟩

theorem SW.alloc' (h : SW E H w) (o : Obj) : SW E H (w.alloc o) := h.below ((Below.refl _ _).alloc (Nat.le_refl _) o)

/-- A new block becomes one's own. -/
theorem SW.alloc (h : SW E H w) (o : Obj) : SW E (blk w.heap.size o * H) (w.alloc o) := by
  refine ⟨h.os, h.tape, h.output, Nat.le_trans h.size (by simp), ?_⟩
  obtain ⟨p, hp, hh⟩ := h.sat
  have hnone : p w.heap.size = none := by
    cases hx : p w.heap.size with
    | none => rfl
    | some o' => have := (Array.getElem?_eq_some_iff.1 (hp _ _ hx)).1; omega
  refine ⟨fun b => if b = w.heap.size then some o else p b, fun b o' ho => ?_, fun b => if b = w.heap.size then some o else none, p, fun b => ?_, funext fun b => ?_, ⟨by simp, fun b' hb' => by simp [hb']⟩, hh⟩
  · by_cases hb : b = w.heap.size
    · subst hb; simp at ho; subst ho; exact heap_alloc_new w _
    · simp [hb] at ho
      have h1 := hp b o' ho
      rw [Below.heap_alloc w o b (Array.getElem?_eq_some_iff.1 h1).1]; exact h1
  · by_cases hb : b = w.heap.size
    · subst hb; exact .inr hnone
    · simp [hb]
  · by_cases hb : b = w.heap.size
    · subst hb; simp
    · simp [hb]

/-- One block of one's own changes; all other blocks that were there stay. -/
theorem SW.turn {b : Nat} {o o' : Obj} (h : SW E (blk b o * F) w) (hos : w'.os = w.os) (ht : w'.tape = w.tape) (hout : w'.output = w.output) (hsz : w.heap.size ≤ w'.heap.size)
    (hb : w'.heap[b]? = some o') (hothers : ∀ k, k < w.heap.size → k ≠ b → w'.heap[k]? = w.heap[k]?) : SW E (blk b o' * F) w' := by
  refine ⟨hos.trans h.os, ht.trans h.tape, hout.trans h.output, Nat.le_trans h.size hsz, ?_⟩
  obtain ⟨p, hp, h1, h2, hd, rfl, ⟨hb1, hb2⟩, hf⟩ := h.sat
  have hd2 : h2 b = none := by have := hd b; simpa [hb1] using this
  refine ⟨fun k => if k = b then some o' else h2 k, fun k ok hk => ?_, fun k => if k = b then some o' else none, h2, fun k => ?_, funext fun k => ?_, ⟨by simp, fun k hk => by simp [hk]⟩, hf⟩
  · by_cases hkb : k = b
    · subst hkb; simp at hk; subst hk; exact hb
    · simp [hkb] at hk
      have h3 := hp k ok (by simp [hb2 k hkb, hk])
      rw [hothers k (Array.getElem?_eq_some_iff.1 h3).1 hkb]; exact h3
  · by_cases hkb : k = b
    · subst hkb; exact .inr hd2
    · simp [hkb]
  · by_cases hkb : k = b
    · subst hkb; simp
    · simp [hkb]

theorem SW.set {b k : Nat} {c : Array Value} {T : TypeId} {f : Nat × Nat} (h : SW E (blk b (.cells c T f) * F) w) (v : Value) :
    SW E (blk b (.cells (c.setIfInBounds k v) T f) * F) (w.setCell ⟨b, k, none⟩ v) := by
  refine h.turn rfl rfl rfl (by simp) ?_ (fun k' hk' hne => Below.heap_setCell _ _ _ _ hne)
  simp [World.setCell, Array.getElem?_modify, h.get]

end

theorem heap_set {w : World} {b k : Nat} {c : Array Value} {T : TypeId} {f : Nat × Nat} (h : w.heap[b]? = some (.cells c T f)) (v : Value) : (w.setCell ⟨b, k, none⟩ v).heap[b]? = some (.cells (c.setIfInBounds k v) T f) := by
  simp [World.setCell, Array.getElem?_modify, h]
theorem heap_set_ne {w : World} {b b' k : Nat} {o : Option Obj} (h : w.heap[b]? = o) (hne : b ≠ b') (v : Value) : (w.setCell ⟨b', k, none⟩ v).heap[b]? = o := by
  rw [Below.heap_setCell _ _ _ _ hne]; exact h
theorem cell_of_heap {w : World} {b : Nat} {c : Array Value} {T : TypeId} {f : Nat × Nat} (h : w.heap[b]? = some (.cells c T f)) (k : Nat) : w.cell? ⟨b, k, none⟩ = c[k]? := by
  simp [World.cell?, h]
theorem frozen_of_heap {w : World} {b : Nat} {c : Array Value} {T : TypeId} (h : w.heap[b]? = some (.cells c T (0, 0))) (k : Nat) : w.frozen? ⟨b, k, none⟩ = false := by
  simp [World.frozen?, h]

/-! ### Rows: a slice of one's own -/

/-- The slice v, of n elements of sz cells each, is one's own; its cells are xs; behind them lies room that nobody knows. -/
def Row (T : TypeId) (sz : Nat) (v : Value) (n : Nat) (xs : List Value) : HP := fun h =>
  xs.length = n * sz ∧ ((v = .slice none 0 0 ∧ n = 0 ∧ ∀ b, h b = none) ∨
    ∃ g cap cur, v = .slice (some ⟨g, 0, none⟩) n cap ∧ n ≤ cap ∧ cap ≤ maxLen ∧ cur.size = cap * sz ∧ cur.toList.take (n * sz) = xs ∧ blk g (.cells cur T (0, 0)) h)

section
variable {E w w' : World} {H A B F : HP} {T : TypeId} {sz n n' : Nat} {v v' : Value} {xs xs' : List Value}

theorem Row.nil (T : TypeId) (sz : Nat) : ∀ h, emp h → Row T sz (.slice none 0 0) 0 [] h := fun _ he => ⟨by simp, .inl ⟨rfl, rfl, he⟩⟩

theorem SW.row_nil (h : SW E F w) (T : TypeId) (sz : Nat) : SW E (Row T sz (.slice none 0 0) 0 [] * F) w := by
  rw [← emp_star F] at h
  exact h.imp (star_mono (Row.nil T sz) (fun _ h => h))

theorem SW.row_len (h : SW E (Row T sz v n xs * F) w) : xs.length = n * sz := by
  obtain ⟨p, hp, h1, h2, hd, rfl, hr, hf⟩ := h.sat
  exact hr.1

theorem SW.owns (h : SW E (Row T sz v n xs * F) w) : w.ownsRow 0 T sz v n xs := by
  obtain ⟨p, hp, h1, h2, hd, rfl, hr, hf⟩ := h.sat
  refine ⟨hr.1, ?_⟩
  rcases hr.2 with ⟨hv, hn, _⟩ | ⟨g, cap, cur, hv, hn, hm, hs, ht, hb, _⟩
  · exact .inl ⟨hv, hn⟩
  · exact .inr ⟨g, cap, cur, hv, Nat.zero_le _, hp g _ (by simp [hb]), hn, hm, hs, ht⟩

/-- What a slice value that is a row looks like. -/
theorem SW.row_form (h : SW E (Row T sz v n xs * F) w) : (v = .slice none 0 0 ∧ n = 0 ∧ xs = []) ∨ ∃ g cap cur, v = .slice (some ⟨g, 0, none⟩) n cap ∧ n ≤ cap ∧ cap ≤ maxLen ∧ cur.size = cap * sz ∧ cur.toList.take (n * sz) = xs ∧ SW E (blk g (.cells cur T (0, 0)) * F) w := by
  obtain ⟨p, hp, h1, h2, hd, rfl, hr, hf⟩ := h.sat
  rcases hr.2 with ⟨hv, hn, _⟩ | ⟨g, cap, cur, hv, hn, hm, hs, ht, hb⟩
  · have := hr.1; subst hn; simp at this; exact .inl ⟨hv, rfl, this⟩
  · exact .inr ⟨g, cap, cur, hv, hn, hm, hs, ht, h.os, h.tape, h.output, h.size, _, hp, h1, h2, hd, rfl, hb, hf⟩

theorem SW.row_of_blk {g cap : Nat} {cur : Array Value} (h : SW E (blk g (.cells cur T (0, 0)) * F) w) (hn : n ≤ cap) (hm : cap ≤ maxLen) (hs : cur.size = cap * sz) (ht : cur.toList.take (n * sz) = xs) :
    SW E (Row T sz (.slice (some ⟨g, 0, none⟩) n cap) n xs * F) w := by
  refine h.imp (star_mono (fun p hp => ?_) (fun _ h => h))
  refine ⟨?_, .inr ⟨g, cap, cur, rfl, hn, hm, hs, ht, hp⟩⟩
  rw [← ht, List.length_take, Array.length_toList, hs]
  exact Nat.min_eq_left (Nat.mul_le_mul_right _ hn)

/-- Behind an append (the kit's laws end so). -/
theorem SW.grown (h : SW E (Row T sz v n xs * F) w) (ho : w'.ownsRow 0 T sz v' n' xs') (hg : w.grownBy w' v.ownBlock) (hat : v'.ownBlock = v.ownBlock ∨ v'.ownBlock = some w.heap.size) :
    SW E (Row T sz v' n' xs' * F) w' := by
  have hF := h.right
  obtain ⟨p, hp, h1, h2, hd, rfl, hr, hf⟩ := h.sat
  refine ⟨hg.os.trans h.os, hg.tape.trans h.tape, hg.output.trans h.output, Nat.le_trans h.size hg.size, ?_⟩
  have hown : ∀ g, v.ownBlock = some g → h2 g = none := fun g hgg => by
    rcases hr.2 with ⟨rfl, _⟩ | ⟨g', cap, cur, rfl, _, _, _, _, hb, _⟩
    · simp [Value.ownBlock] at hgg
    · simp [Value.ownBlock] at hgg
      subst hgg
      have := hd g'; simpa [hb] using this
  have hkeep : ∀ k o, h2 k = some o → w'.heap[k]? = some o := fun k o hk => by
    have h3 := hp k o (by have := hd k; simp [hk] at this; simp [this, hk])
    rw [hg.block k (Array.getElem?_eq_some_iff.1 h3).1 (fun e => by have := hown k e.symm; simp [hk] at this)]
    exact h3
  rcases ho.2 with ⟨rfl, hn⟩ | ⟨g, cap, cur, rfl, _, hgg, hn, hm, hs, ht⟩
  · exact ⟨h2, hkeep, fun _ => none, h2, fun _ => .inl rfl, by simp, ⟨ho.1, .inl ⟨rfl, hn, fun _ => rfl⟩⟩, hf⟩
  · have h2g : h2 g = none := by
      rcases hat with hat | hat
      · exact hown g (by rw [← hat]; rfl)
      · have hg' : g = w.heap.size := by simpa [Value.ownBlock] using hat
        cases hx : h2 g with
        | none => rfl
        | some o => 
          have h3 := hp g o (by have := hd g; simp [hx] at this; simp [this, hx])
          have := (Array.getElem?_eq_some_iff.1 h3).1
          omega
    refine ⟨fun k => if k = g then some (.cells cur T (0, 0)) else h2 k, fun k ok hk => ?_, fun k => if k = g then some (.cells cur T (0, 0)) else none, h2, fun k => ?_, funext fun k => ?_, ⟨ho.1, .inr ⟨g, cap, cur, rfl, hn, hm, hs, ht, by simp, fun k hk => by simp [hk]⟩⟩, hf⟩
    · by_cases hkg : k = g
      · subst hkg; simp at hk; subst hk; exact hgg
      · simp [hkg] at hk; exact hkeep k ok hk
    · by_cases hkg : k = g
      · subst hkg; exact .inr h2g
      · simp [hkg]
    · by_cases hkg : k = g
      · subst hkg; simp
      · simp [hkg]
end
end Go.Proofs.Lk
