/- How the program's objects lie in memory. Conditions: none. -/
import Derived.Test.YtkadikbajkjmaaaGreatDoorApp
import Derived.Test.YtkadikbajkjmaaaGreatDoorTick
import Derived.Test.YtkadikbajkjmaaaGreatDoorQueue
namespace Go.Proofs.Lk
open Go Go.RowKit

/-- The star over a list. -/
def big {α : Type} (l : List α) (f : α → HP) : HP := l.foldr (fun x A => f x * A) emp
theorem big_nil {α : Type} (f : α → HP) : big ([] : List α) f = emp := rfl
theorem big_cons {α : Type} (x : α) (l : List α) (f : α → HP) : big (x :: l) f = f x * big l f := rfl
theorem big_append {α : Type} (l m : List α) (f : α → HP) : big (l ++ m) f = big l f * big m f := by
  induction l with
  | nil => rw [List.nil_append, big_nil, emp_star]
  | cons x l ih => rw [List.cons_append, big_cons, big_cons, ih, star_assoc]
theorem big_split {α : Type} (l : List α) (k : Nat) (hk : k < l.length) (f : α → HP) : big l f = f l[k] * big (l.eraseIdx k) f := by
  rw [List.eraseIdx_eq_take_drop_succ, big_append, ← star_assoc, star_comm (f l[k]), star_assoc, ← big_cons, ← List.drop_eq_getElem_cons hk, ← big_append, List.take_append_drop]
theorem big_set {α : Type} (l : List α) (k : Nat) (hk : k < l.length) (x : α) (f : α → HP) : big (l.set k x) f = f x * big (l.eraseIdx k) f := by
  rw [big_split (l.set k x) k (by simpa using hk)]
  simp [List.eraseIdx_set_eq]

def HostsAt (h : Nat) (l : List Host) (most : Int) : HP := ex fun v : Option Addr × Nat => blk h (.cells #[.slice v.1 l.length v.2, .int .i64 most] 159 (0, 0)) * RowOf 396 (.slice v.1 l.length v.2) l

structure PoolS where
  busy : List PConn
  idle : List PConn
  total : Int
  keep : Int
  hosts : List Host
  most : Int
  last : Int

def PoolAt (p : Nat) (S : PoolS) : HP := ex fun x : (Option Addr × Nat) × (Option Addr × Nat) × Nat =>
  blk p (.cells #[.slice x.1.1 S.busy.length x.1.2, .slice x.2.1.1 S.idle.length x.2.1.2, .int .i64 S.total, .int .u64 S.keep, .pointer (some ⟨x.2.2, 0, none⟩), .int .i64 S.last] 96 (0, 0))
  * (RowOf 273 (.slice x.1.1 S.busy.length x.1.2) S.busy * (RowOf 273 (.slice x.2.1.1 S.idle.length x.2.1.2) S.idle * HostsAt x.2.2 S.hosts S.most))

def CacheAt (c : Nat) (l : List Entry) (most : Int) : HP := ex fun v : Option Addr × Nat => blk c (.cells #[.slice v.1 l.length v.2, .int .i64 most] 102 (0, 0)) * RowOf 297 (.slice v.1 l.length v.2) l

def WheelAt (w : Nat) (l : List TOne) (most last : Int) : HP := ex fun v : Option Addr × Nat => blk w (.cells #[.slice v.1 l.length v.2, .int .i64 most, .int .i64 last] 105 (0, 0)) * RowOf 269 (.slice v.1 l.length v.2) l

structure GOne where
  members : List Int
  torn : Bool
  deriving DecidableEq
def SetAt (s : Nat) (l : List GOne) : HP := ex fun x : (Option Addr × Nat) × List (SlV × GOne) => pur (x.2.map (·.2) = l) * (blk s (.cells #[.slice x.1.1 x.2.length x.1.2] 108 (0, 0))
  * (RowOf 237 (.slice x.1.1 x.2.length x.1.2) (x.2.map fun p => (⟨p.1, p.2.torn⟩ : GOneV)) * big x.2 fun p => RowOf 3 p.1.val p.2.members))

structure GSig where
  parents : List Int
  aborted : Bool
  deriving DecidableEq
def TreeAt (s : Nat) (l : List GSig) : HP := ex fun x : (Option Addr × Nat) × List (SlV × GSig) => pur (x.2.map (·.2) = l) * (blk s (.cells #[.slice x.1.1 x.2.length x.1.2] 111 (0, 0))
  * (RowOf 180 (.slice x.1.1 x.2.length x.1.2) (x.2.map fun p => (⟨p.1, p.2.aborted⟩ : GSigV)) * big x.2 fun p => RowOf 3 p.1.val p.2.parents))

structure Want where
  origin : ByteArray
  url : ByteArray
  creds : Bool
  method : ByteArray
  names : ByteArray
  deriving DecidableEq
structure SOne where
  num : Int
  want : Want
  members : List Int
  deriving DecidableEq
def TableAt (s : Nat) (l : List SOne) (last : Int) : HP := ex fun x : (Option Addr × Nat) × List (SlV × SOne) => pur (x.2.map (·.2) = l) * (blk s (.cells #[.slice x.1.1 x.2.length x.1.2, .int .i64 last] 114 (0, 0))
  * (RowOf 354 (.slice x.1.1 x.2.length x.1.2) (x.2.map fun p => (⟨p.2.num, p.2.want.origin, p.2.want.url, p.2.want.creds, p.2.want.method, p.2.want.names, p.1⟩ : SOneV)) * big x.2 fun p => RowOf 3 p.1.val p.2.members))

def BookAt (b : Nat) (l : List AOne) : HP := ex fun v : Option Addr × Nat => blk b (.cells #[.slice v.1 l.length v.2] 117 (0, 0)) * RowOf 252 (.slice v.1 l.length v.2) l
end Go.Proofs.Lk
