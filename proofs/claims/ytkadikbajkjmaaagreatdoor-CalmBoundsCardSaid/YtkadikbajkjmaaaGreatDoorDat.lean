/- The plain data of the program, as structures, and the cells that hold them. Conditions: none. -/
import Derived.Test.YtkadikbajkjmaaaGreatDoorRws
namespace Go.Proofs.Lk
open Go Go.RowKit

/-- A slice's header. -/
structure SlV where
  a : Option Addr
  n : Nat
  c : Nat
  deriving DecidableEq
def SlV.val (s : SlV) : Value := .slice s.a s.n s.c
def SlV.nil : SlV := ⟨none, 0, 0⟩
theorem SlV.val_one (s : SlV) : s.val.oneCell' = true := rfl
theorem SlV.val_mk (a : Option Addr) (n c : Nat) : SlV.val ⟨a, n, c⟩ = .slice a n c := rfl

structure Item where
  id : Int
  cls : Int
  since : Int
  key : ByteArray
  pre : Int
  deriving DecidableEq

instance : Enc Item where
  val x := .agg #[.int .i64 x.id, .int .i64 x.cls, .int .u64 x.since, .string x.key, .int .i64 x.pre]
  sz := 5
  cells x := [.int .i64 x.id, .int .i64 x.cls, .int .u64 x.since, .string x.key, .int .i64 x.pre]
  len _ := rfl
  one x := by simp [Value.oneCell']
  pos := by decide

abbrev Item.val (x : Item) : Value := Enc.val x

theorem Item.val_mk (id : Int) (cls : Int) (since : Int) (key : ByteArray) (pre : Int) : Item.val ⟨id, cls, since, key, pre⟩ = .agg #[.int .i64 id, .int .i64 cls, .int .u64 since, .string key, .int .i64 pre] := rfl

theorem Item.reads {w : World} {b off : Nat} {l : List Item} (h : ∀ k (hk : k < l.length) j, j < Enc.sz Item → w.cell? ⟨b, off + k * Enc.sz Item + j, none⟩ = (Enc.cells l[k])[j]?) (k : Nat) (hk : k < l.length) :
    w.cell? ⟨b, off + k * 5, none⟩ = some (.int .i64 l[k].id) ∧ w.cell? ⟨b, off + k * 5 + 1, none⟩ = some (.int .i64 l[k].cls) ∧ w.cell? ⟨b, off + k * 5 + 2, none⟩ = some (.int .u64 l[k].since) ∧ w.cell? ⟨b, off + k * 5 + 3, none⟩ = some (.string l[k].key) ∧ w.cell? ⟨b, off + k * 5 + 4, none⟩ = some (.int .i64 l[k].pre) :=
  ⟨h k hk 0 (by decide), h k hk 1 (by decide), h k hk 2 (by decide), h k hk 3 (by decide), h k hk 4 (by decide)⟩

structure PConn where
  num : Int
  key : ByteArray
  til : Int
  deriving DecidableEq

instance : Enc PConn where
  val x := .agg #[.int .i64 x.num, .string x.key, .int .u64 x.til]
  sz := 3
  cells x := [.int .i64 x.num, .string x.key, .int .u64 x.til]
  len _ := rfl
  one x := by simp [Value.oneCell']
  pos := by decide

abbrev PConn.val (x : PConn) : Value := Enc.val x

theorem PConn.val_mk (num : Int) (key : ByteArray) (til : Int) : PConn.val ⟨num, key, til⟩ = .agg #[.int .i64 num, .string key, .int .u64 til] := rfl

theorem PConn.reads {w : World} {b off : Nat} {l : List PConn} (h : ∀ k (hk : k < l.length) j, j < Enc.sz PConn → w.cell? ⟨b, off + k * Enc.sz PConn + j, none⟩ = (Enc.cells l[k])[j]?) (k : Nat) (hk : k < l.length) :
    w.cell? ⟨b, off + k * 3, none⟩ = some (.int .i64 l[k].num) ∧ w.cell? ⟨b, off + k * 3 + 1, none⟩ = some (.string l[k].key) ∧ w.cell? ⟨b, off + k * 3 + 2, none⟩ = some (.int .u64 l[k].til) :=
  ⟨h k hk 0 (by decide), h k hk 1 (by decide), h k hk 2 (by decide)⟩

structure AOne where
  id : Int
  group : Int
  key : ByteArray
  deriving DecidableEq

instance : Enc AOne where
  val x := .agg #[.int .i64 x.id, .int .i64 x.group, .string x.key]
  sz := 3
  cells x := [.int .i64 x.id, .int .i64 x.group, .string x.key]
  len _ := rfl
  one x := by simp [Value.oneCell']
  pos := by decide

abbrev AOne.val (x : AOne) : Value := Enc.val x

theorem AOne.val_mk (id : Int) (group : Int) (key : ByteArray) : AOne.val ⟨id, group, key⟩ = .agg #[.int .i64 id, .int .i64 group, .string key] := rfl

theorem AOne.reads {w : World} {b off : Nat} {l : List AOne} (h : ∀ k (hk : k < l.length) j, j < Enc.sz AOne → w.cell? ⟨b, off + k * Enc.sz AOne + j, none⟩ = (Enc.cells l[k])[j]?) (k : Nat) (hk : k < l.length) :
    w.cell? ⟨b, off + k * 3, none⟩ = some (.int .i64 l[k].id) ∧ w.cell? ⟨b, off + k * 3 + 1, none⟩ = some (.int .i64 l[k].group) ∧ w.cell? ⟨b, off + k * 3 + 2, none⟩ = some (.string l[k].key) :=
  ⟨h k hk 0 (by decide), h k hk 1 (by decide), h k hk 2 (by decide)⟩

structure Host where
  key : ByteArray
  uses : Int
  deriving DecidableEq

instance : Enc Host where
  val x := .agg #[.string x.key, .int .i64 x.uses]
  sz := 2
  cells x := [.string x.key, .int .i64 x.uses]
  len _ := rfl
  one x := by simp [Value.oneCell']
  pos := by decide

abbrev Host.val (x : Host) : Value := Enc.val x

theorem Host.val_mk (key : ByteArray) (uses : Int) : Host.val ⟨key, uses⟩ = .agg #[.string key, .int .i64 uses] := rfl

theorem Host.reads {w : World} {b off : Nat} {l : List Host} (h : ∀ k (hk : k < l.length) j, j < Enc.sz Host → w.cell? ⟨b, off + k * Enc.sz Host + j, none⟩ = (Enc.cells l[k])[j]?) (k : Nat) (hk : k < l.length) :
    w.cell? ⟨b, off + k * 2, none⟩ = some (.string l[k].key) ∧ w.cell? ⟨b, off + k * 2 + 1, none⟩ = some (.int .i64 l[k].uses) :=
  ⟨h k hk 0 (by decide), h k hk 1 (by decide)⟩

structure SOneV where
  num : Int
  origin : ByteArray
  url : ByteArray
  creds : Bool
  method : ByteArray
  names : ByteArray
  mem : SlV
  deriving DecidableEq

instance : Enc SOneV where
  val x := .agg #[.int .i64 x.num, .string x.origin, .string x.url, .bool x.creds, .string x.method, .string x.names, x.mem.val]
  sz := 7
  cells x := [.int .i64 x.num, .string x.origin, .string x.url, .bool x.creds, .string x.method, .string x.names, x.mem.val]
  len _ := rfl
  one x := by simp [Value.oneCell', SlV.val]
  pos := by decide

abbrev SOneV.val (x : SOneV) : Value := Enc.val x

theorem SOneV.val_mk (num : Int) (origin : ByteArray) (url : ByteArray) (creds : Bool) (method : ByteArray) (names : ByteArray) (mem : SlV) : SOneV.val ⟨num, origin, url, creds, method, names, mem⟩ = .agg #[.int .i64 num, .string origin, .string url, .bool creds, .string method, .string names, mem.val] := rfl

theorem SOneV.reads {w : World} {b off : Nat} {l : List SOneV} (h : ∀ k (hk : k < l.length) j, j < Enc.sz SOneV → w.cell? ⟨b, off + k * Enc.sz SOneV + j, none⟩ = (Enc.cells l[k])[j]?) (k : Nat) (hk : k < l.length) :
    w.cell? ⟨b, off + k * 7, none⟩ = some (.int .i64 l[k].num) ∧ w.cell? ⟨b, off + k * 7 + 1, none⟩ = some (.string l[k].origin) ∧ w.cell? ⟨b, off + k * 7 + 2, none⟩ = some (.string l[k].url) ∧ w.cell? ⟨b, off + k * 7 + 3, none⟩ = some (.bool l[k].creds) ∧ w.cell? ⟨b, off + k * 7 + 4, none⟩ = some (.string l[k].method) ∧ w.cell? ⟨b, off + k * 7 + 5, none⟩ = some (.string l[k].names) ∧ w.cell? ⟨b, off + k * 7 + 6, none⟩ = some (l[k].mem.val) :=
  ⟨h k hk 0 (by decide), h k hk 1 (by decide), h k hk 2 (by decide), h k hk 3 (by decide), h k hk 4 (by decide), h k hk 5 (by decide), h k hk 6 (by decide)⟩

structure GOneV where
  mem : SlV
  torn : Bool
  deriving DecidableEq

instance : Enc GOneV where
  val x := .agg #[x.mem.val, .bool x.torn]
  sz := 2
  cells x := [x.mem.val, .bool x.torn]
  len _ := rfl
  one x := by simp [Value.oneCell', SlV.val]
  pos := by decide

abbrev GOneV.val (x : GOneV) : Value := Enc.val x

theorem GOneV.val_mk (mem : SlV) (torn : Bool) : GOneV.val ⟨mem, torn⟩ = .agg #[mem.val, .bool torn] := rfl

theorem GOneV.reads {w : World} {b off : Nat} {l : List GOneV} (h : ∀ k (hk : k < l.length) j, j < Enc.sz GOneV → w.cell? ⟨b, off + k * Enc.sz GOneV + j, none⟩ = (Enc.cells l[k])[j]?) (k : Nat) (hk : k < l.length) :
    w.cell? ⟨b, off + k * 2, none⟩ = some (l[k].mem.val) ∧ w.cell? ⟨b, off + k * 2 + 1, none⟩ = some (.bool l[k].torn) :=
  ⟨h k hk 0 (by decide), h k hk 1 (by decide)⟩

structure GSigV where
  par : SlV
  aborted : Bool
  deriving DecidableEq

instance : Enc GSigV where
  val x := .agg #[x.par.val, .bool x.aborted]
  sz := 2
  cells x := [x.par.val, .bool x.aborted]
  len _ := rfl
  one x := by simp [Value.oneCell', SlV.val]
  pos := by decide

abbrev GSigV.val (x : GSigV) : Value := Enc.val x

theorem GSigV.val_mk (par : SlV) (aborted : Bool) : GSigV.val ⟨par, aborted⟩ = .agg #[par.val, .bool aborted] := rfl

theorem GSigV.reads {w : World} {b off : Nat} {l : List GSigV} (h : ∀ k (hk : k < l.length) j, j < Enc.sz GSigV → w.cell? ⟨b, off + k * Enc.sz GSigV + j, none⟩ = (Enc.cells l[k])[j]?) (k : Nat) (hk : k < l.length) :
    w.cell? ⟨b, off + k * 2, none⟩ = some (l[k].par.val) ∧ w.cell? ⟨b, off + k * 2 + 1, none⟩ = some (.bool l[k].aborted) :=
  ⟨h k hk 0 (by decide), h k hk 1 (by decide)⟩

structure Entry where
  origin : ByteArray
  url : ByteArray
  creds : Bool
  method : ByteArray
  header : ByteArray
  til : Int
  deriving DecidableEq

instance : Enc Entry where
  val x := .agg #[.string x.origin, .string x.url, .bool x.creds, .string x.method, .string x.header, .int .u64 x.til]
  sz := 6
  cells x := [.string x.origin, .string x.url, .bool x.creds, .string x.method, .string x.header, .int .u64 x.til]
  len _ := rfl
  one x := by simp [Value.oneCell']
  pos := by decide

abbrev Entry.val (x : Entry) : Value := Enc.val x

theorem Entry.val_mk (origin : ByteArray) (url : ByteArray) (creds : Bool) (method : ByteArray) (header : ByteArray) (til : Int) : Entry.val ⟨origin, url, creds, method, header, til⟩ = .agg #[.string origin, .string url, .bool creds, .string method, .string header, .int .u64 til] := rfl

theorem Entry.reads {w : World} {b off : Nat} {l : List Entry} (h : ∀ k (hk : k < l.length) j, j < Enc.sz Entry → w.cell? ⟨b, off + k * Enc.sz Entry + j, none⟩ = (Enc.cells l[k])[j]?) (k : Nat) (hk : k < l.length) :
    w.cell? ⟨b, off + k * 6, none⟩ = some (.string l[k].origin) ∧ w.cell? ⟨b, off + k * 6 + 1, none⟩ = some (.string l[k].url) ∧ w.cell? ⟨b, off + k * 6 + 2, none⟩ = some (.bool l[k].creds) ∧ w.cell? ⟨b, off + k * 6 + 3, none⟩ = some (.string l[k].method) ∧ w.cell? ⟨b, off + k * 6 + 4, none⟩ = some (.string l[k].header) ∧ w.cell? ⟨b, off + k * 6 + 5, none⟩ = some (.int .u64 l[k].til) :=
  ⟨h k hk 0 (by decide), h k hk 1 (by decide), h k hk 2 (by decide), h k hk 3 (by decide), h k hk 4 (by decide), h k hk 5 (by decide)⟩

structure TOne where
  at_ : Int
  id : Int
  tag : Int
  deriving DecidableEq

instance : Enc TOne where
  val x := .agg #[.int .u64 x.at_, .int .i64 x.id, .int .i64 x.tag]
  sz := 3
  cells x := [.int .u64 x.at_, .int .i64 x.id, .int .i64 x.tag]
  len _ := rfl
  one x := by simp [Value.oneCell']
  pos := by decide

abbrev TOne.val (x : TOne) : Value := Enc.val x

theorem TOne.val_mk (at_ : Int) (id : Int) (tag : Int) : TOne.val ⟨at_, id, tag⟩ = .agg #[.int .u64 at_, .int .i64 id, .int .i64 tag] := rfl

theorem TOne.reads {w : World} {b off : Nat} {l : List TOne} (h : ∀ k (hk : k < l.length) j, j < Enc.sz TOne → w.cell? ⟨b, off + k * Enc.sz TOne + j, none⟩ = (Enc.cells l[k])[j]?) (k : Nat) (hk : k < l.length) :
    w.cell? ⟨b, off + k * 3, none⟩ = some (.int .u64 l[k].at_) ∧ w.cell? ⟨b, off + k * 3 + 1, none⟩ = some (.int .i64 l[k].id) ∧ w.cell? ⟨b, off + k * 3 + 2, none⟩ = some (.int .i64 l[k].tag) :=
  ⟨h k hk 0 (by decide), h k hk 1 (by decide), h k hk 2 (by decide)⟩

structure Header where
  name : ByteArray
  value : ByteArray
  deriving DecidableEq

instance : Enc Header where
  val x := .agg #[.string x.name, .string x.value]
  sz := 2
  cells x := [.string x.name, .string x.value]
  len _ := rfl
  one x := by simp [Value.oneCell']
  pos := by decide

abbrev Header.val (x : Header) : Value := Enc.val x

theorem Header.val_mk (name : ByteArray) (value : ByteArray) : Header.val ⟨name, value⟩ = .agg #[.string name, .string value] := rfl

theorem Header.reads {w : World} {b off : Nat} {l : List Header} (h : ∀ k (hk : k < l.length) j, j < Enc.sz Header → w.cell? ⟨b, off + k * Enc.sz Header + j, none⟩ = (Enc.cells l[k])[j]?) (k : Nat) (hk : k < l.length) :
    w.cell? ⟨b, off + k * 2, none⟩ = some (.string l[k].name) ∧ w.cell? ⟨b, off + k * 2 + 1, none⟩ = some (.string l[k].value) :=
  ⟨h k hk 0 (by decide), h k hk 1 (by decide)⟩

structure Evt where
  act : Int
  at_ : Int
  kind : Int
  id : Int
  pre : Int
  conn : Int
  n : Int
  deriving DecidableEq

instance : Enc Evt where
  val x := .agg #[.int .i64 x.act, .int .u64 x.at_, .int .i64 x.kind, .int .i64 x.id, .int .i64 x.pre, .int .i64 x.conn, .int .i64 x.n]
  sz := 7
  cells x := [.int .i64 x.act, .int .u64 x.at_, .int .i64 x.kind, .int .i64 x.id, .int .i64 x.pre, .int .i64 x.conn, .int .i64 x.n]
  len _ := rfl
  one x := by simp [Value.oneCell']
  pos := by decide

abbrev Evt.val (x : Evt) : Value := Enc.val x

theorem Evt.val_mk (act : Int) (at_ : Int) (kind : Int) (id : Int) (pre : Int) (conn : Int) (n : Int) : Evt.val ⟨act, at_, kind, id, pre, conn, n⟩ = .agg #[.int .i64 act, .int .u64 at_, .int .i64 kind, .int .i64 id, .int .i64 pre, .int .i64 conn, .int .i64 n] := rfl

theorem Evt.reads {w : World} {b off : Nat} {l : List Evt} (h : ∀ k (hk : k < l.length) j, j < Enc.sz Evt → w.cell? ⟨b, off + k * Enc.sz Evt + j, none⟩ = (Enc.cells l[k])[j]?) (k : Nat) (hk : k < l.length) :
    w.cell? ⟨b, off + k * 7, none⟩ = some (.int .i64 l[k].act) ∧ w.cell? ⟨b, off + k * 7 + 1, none⟩ = some (.int .u64 l[k].at_) ∧ w.cell? ⟨b, off + k * 7 + 2, none⟩ = some (.int .i64 l[k].kind) ∧ w.cell? ⟨b, off + k * 7 + 3, none⟩ = some (.int .i64 l[k].id) ∧ w.cell? ⟨b, off + k * 7 + 4, none⟩ = some (.int .i64 l[k].pre) ∧ w.cell? ⟨b, off + k * 7 + 5, none⟩ = some (.int .i64 l[k].conn) ∧ w.cell? ⟨b, off + k * 7 + 6, none⟩ = some (.int .i64 l[k].n) :=
  ⟨h k hk 0 (by decide), h k hk 1 (by decide), h k hk 2 (by decide), h k hk 3 (by decide), h k hk 4 (by decide), h k hk 5 (by decide), h k hk 6 (by decide)⟩

structure FetchT where
  id : Int
  state : Int
  pre : Int
  conn : Int
  len : Int
  paused : Bool
  deriving DecidableEq

instance : Enc FetchT where
  val x := .agg #[.int .i64 x.id, .int .i64 x.state, .int .i64 x.pre, .int .i64 x.conn, .int .i64 x.len, .bool x.paused]
  sz := 6
  cells x := [.int .i64 x.id, .int .i64 x.state, .int .i64 x.pre, .int .i64 x.conn, .int .i64 x.len, .bool x.paused]
  len _ := rfl
  one x := by simp [Value.oneCell']
  pos := by decide

abbrev FetchT.val (x : FetchT) : Value := Enc.val x

theorem FetchT.val_mk (id : Int) (state : Int) (pre : Int) (conn : Int) (len : Int) (paused : Bool) : FetchT.val ⟨id, state, pre, conn, len, paused⟩ = .agg #[.int .i64 id, .int .i64 state, .int .i64 pre, .int .i64 conn, .int .i64 len, .bool paused] := rfl

theorem FetchT.reads {w : World} {b off : Nat} {l : List FetchT} (h : ∀ k (hk : k < l.length) j, j < Enc.sz FetchT → w.cell? ⟨b, off + k * Enc.sz FetchT + j, none⟩ = (Enc.cells l[k])[j]?) (k : Nat) (hk : k < l.length) :
    w.cell? ⟨b, off + k * 6, none⟩ = some (.int .i64 l[k].id) ∧ w.cell? ⟨b, off + k * 6 + 1, none⟩ = some (.int .i64 l[k].state) ∧ w.cell? ⟨b, off + k * 6 + 2, none⟩ = some (.int .i64 l[k].pre) ∧ w.cell? ⟨b, off + k * 6 + 3, none⟩ = some (.int .i64 l[k].conn) ∧ w.cell? ⟨b, off + k * 6 + 4, none⟩ = some (.int .i64 l[k].len) ∧ w.cell? ⟨b, off + k * 6 + 5, none⟩ = some (.bool l[k].paused) :=
  ⟨h k hk 0 (by decide), h k hk 1 (by decide), h k hk 2 (by decide), h k hk 3 (by decide), h k hk 4 (by decide), h k hk 5 (by decide)⟩

structure ConnT where
  conn : Int
  id : Int
  pre : Int
  key : ByteArray
  deriving DecidableEq

instance : Enc ConnT where
  val x := .agg #[.int .i64 x.conn, .int .i64 x.id, .int .i64 x.pre, .string x.key]
  sz := 4
  cells x := [.int .i64 x.conn, .int .i64 x.id, .int .i64 x.pre, .string x.key]
  len _ := rfl
  one x := by simp [Value.oneCell']
  pos := by decide

abbrev ConnT.val (x : ConnT) : Value := Enc.val x

theorem ConnT.val_mk (conn : Int) (id : Int) (pre : Int) (key : ByteArray) : ConnT.val ⟨conn, id, pre, key⟩ = .agg #[.int .i64 conn, .int .i64 id, .int .i64 pre, .string key] := rfl

theorem ConnT.reads {w : World} {b off : Nat} {l : List ConnT} (h : ∀ k (hk : k < l.length) j, j < Enc.sz ConnT → w.cell? ⟨b, off + k * Enc.sz ConnT + j, none⟩ = (Enc.cells l[k])[j]?) (k : Nat) (hk : k < l.length) :
    w.cell? ⟨b, off + k * 4, none⟩ = some (.int .i64 l[k].conn) ∧ w.cell? ⟨b, off + k * 4 + 1, none⟩ = some (.int .i64 l[k].id) ∧ w.cell? ⟨b, off + k * 4 + 2, none⟩ = some (.int .i64 l[k].pre) ∧ w.cell? ⟨b, off + k * 4 + 3, none⟩ = some (.string l[k].key) :=
  ⟨h k hk 0 (by decide), h k hk 1 (by decide), h k hk 2 (by decide), h k hk 3 (by decide)⟩

structure ToldV where
  code : Int
  id : Int
  n : Int
  bytes : SlV
  deriving DecidableEq

instance : Enc ToldV where
  val x := .agg #[.int .i64 x.code, .int .i64 x.id, .int .i64 x.n, x.bytes.val]
  sz := 4
  cells x := [.int .i64 x.code, .int .i64 x.id, .int .i64 x.n, x.bytes.val]
  len _ := rfl
  one x := by simp [Value.oneCell', SlV.val]
  pos := by decide

abbrev ToldV.val (x : ToldV) : Value := Enc.val x

theorem ToldV.val_mk (code : Int) (id : Int) (n : Int) (bytes : SlV) : ToldV.val ⟨code, id, n, bytes⟩ = .agg #[.int .i64 code, .int .i64 id, .int .i64 n, bytes.val] := rfl

theorem ToldV.reads {w : World} {b off : Nat} {l : List ToldV} (h : ∀ k (hk : k < l.length) j, j < Enc.sz ToldV → w.cell? ⟨b, off + k * Enc.sz ToldV + j, none⟩ = (Enc.cells l[k])[j]?) (k : Nat) (hk : k < l.length) :
    w.cell? ⟨b, off + k * 4, none⟩ = some (.int .i64 l[k].code) ∧ w.cell? ⟨b, off + k * 4 + 1, none⟩ = some (.int .i64 l[k].id) ∧ w.cell? ⟨b, off + k * 4 + 2, none⟩ = some (.int .i64 l[k].n) ∧ w.cell? ⟨b, off + k * 4 + 3, none⟩ = some (l[k].bytes.val) :=
  ⟨h k hk 0 (by decide), h k hk 1 (by decide), h k hk 2 (by decide), h k hk 3 (by decide)⟩

structure ReqV where
  method : ByteArray
  url : ByteArray
  origin : ByteArray
  mode : Int
  creds : Bool
  headers : SlV
  cls : Int
  timeout : Int
  group : Int
  signal : Int
  deriving DecidableEq

instance : Enc ReqV where
  val x := .agg #[.string x.method, .string x.url, .string x.origin, .int .i64 x.mode, .bool x.creds, x.headers.val, .int .i64 x.cls, .int .u64 x.timeout, .int .i64 x.group, .int .i64 x.signal]
  sz := 10
  cells x := [.string x.method, .string x.url, .string x.origin, .int .i64 x.mode, .bool x.creds, x.headers.val, .int .i64 x.cls, .int .u64 x.timeout, .int .i64 x.group, .int .i64 x.signal]
  len _ := rfl
  one x := by simp [Value.oneCell', SlV.val]
  pos := by decide

abbrev ReqV.val (x : ReqV) : Value := Enc.val x

theorem ReqV.val_mk (method : ByteArray) (url : ByteArray) (origin : ByteArray) (mode : Int) (creds : Bool) (headers : SlV) (cls : Int) (timeout : Int) (group : Int) (signal : Int) : ReqV.val ⟨method, url, origin, mode, creds, headers, cls, timeout, group, signal⟩ = .agg #[.string method, .string url, .string origin, .int .i64 mode, .bool creds, headers.val, .int .i64 cls, .int .u64 timeout, .int .i64 group, .int .i64 signal] := rfl

theorem ReqV.reads {w : World} {b off : Nat} {l : List ReqV} (h : ∀ k (hk : k < l.length) j, j < Enc.sz ReqV → w.cell? ⟨b, off + k * Enc.sz ReqV + j, none⟩ = (Enc.cells l[k])[j]?) (k : Nat) (hk : k < l.length) :
    w.cell? ⟨b, off + k * 10, none⟩ = some (.string l[k].method) ∧ w.cell? ⟨b, off + k * 10 + 1, none⟩ = some (.string l[k].url) ∧ w.cell? ⟨b, off + k * 10 + 2, none⟩ = some (.string l[k].origin) ∧ w.cell? ⟨b, off + k * 10 + 3, none⟩ = some (.int .i64 l[k].mode) ∧ w.cell? ⟨b, off + k * 10 + 4, none⟩ = some (.bool l[k].creds) ∧ w.cell? ⟨b, off + k * 10 + 5, none⟩ = some (l[k].headers.val) ∧ w.cell? ⟨b, off + k * 10 + 6, none⟩ = some (.int .i64 l[k].cls) ∧ w.cell? ⟨b, off + k * 10 + 7, none⟩ = some (.int .u64 l[k].timeout) ∧ w.cell? ⟨b, off + k * 10 + 8, none⟩ = some (.int .i64 l[k].group) ∧ w.cell? ⟨b, off + k * 10 + 9, none⟩ = some (.int .i64 l[k].signal) :=
  ⟨h k hk 0 (by decide), h k hk 1 (by decide), h k hk 2 (by decide), h k hk 3 (by decide), h k hk 4 (by decide), h k hk 5 (by decide), h k hk 6 (by decide), h k hk 7 (by decide), h k hk 8 (by decide), h k hk 9 (by decide)⟩

structure ActV where
  op : Int
  id : Int
  n : Int
  ids : SlV
  time : Int
  status : Int
  headers : SlV
  bytes : SlV
  method : ByteArray
  url : ByteArray
  origin : ByteArray
  mode : Int
  creds : Bool
  rheaders : SlV
  cls : Int
  timeout : Int
  group : Int
  signal : Int
  deriving DecidableEq

instance : Enc ActV where
  val x := .agg #[.int .i64 x.op, .int .i64 x.id, .int .i64 x.n, x.ids.val, .int .u64 x.time, .int .i64 x.status, x.headers.val, x.bytes.val, .string x.method, .string x.url, .string x.origin, .int .i64 x.mode, .bool x.creds, x.rheaders.val, .int .i64 x.cls, .int .u64 x.timeout, .int .i64 x.group, .int .i64 x.signal]
  sz := 18
  cells x := [.int .i64 x.op, .int .i64 x.id, .int .i64 x.n, x.ids.val, .int .u64 x.time, .int .i64 x.status, x.headers.val, x.bytes.val, .string x.method, .string x.url, .string x.origin, .int .i64 x.mode, .bool x.creds, x.rheaders.val, .int .i64 x.cls, .int .u64 x.timeout, .int .i64 x.group, .int .i64 x.signal]
  len _ := rfl
  one x := by simp [Value.oneCell', SlV.val]
  pos := by decide

abbrev ActV.val (x : ActV) : Value := Enc.val x

theorem ActV.val_mk (op : Int) (id : Int) (n : Int) (ids : SlV) (time : Int) (status : Int) (headers : SlV) (bytes : SlV) (method : ByteArray) (url : ByteArray) (origin : ByteArray) (mode : Int) (creds : Bool) (rheaders : SlV) (cls : Int) (timeout : Int) (group : Int) (signal : Int) : ActV.val ⟨op, id, n, ids, time, status, headers, bytes, method, url, origin, mode, creds, rheaders, cls, timeout, group, signal⟩ = .agg #[.int .i64 op, .int .i64 id, .int .i64 n, ids.val, .int .u64 time, .int .i64 status, headers.val, bytes.val, .string method, .string url, .string origin, .int .i64 mode, .bool creds, rheaders.val, .int .i64 cls, .int .u64 timeout, .int .i64 group, .int .i64 signal] := rfl

theorem ActV.reads {w : World} {b off : Nat} {l : List ActV} (h : ∀ k (hk : k < l.length) j, j < Enc.sz ActV → w.cell? ⟨b, off + k * Enc.sz ActV + j, none⟩ = (Enc.cells l[k])[j]?) (k : Nat) (hk : k < l.length) :
    w.cell? ⟨b, off + k * 18, none⟩ = some (.int .i64 l[k].op) ∧ w.cell? ⟨b, off + k * 18 + 1, none⟩ = some (.int .i64 l[k].id) ∧ w.cell? ⟨b, off + k * 18 + 2, none⟩ = some (.int .i64 l[k].n) ∧ w.cell? ⟨b, off + k * 18 + 3, none⟩ = some (l[k].ids.val) ∧ w.cell? ⟨b, off + k * 18 + 4, none⟩ = some (.int .u64 l[k].time) ∧ w.cell? ⟨b, off + k * 18 + 5, none⟩ = some (.int .i64 l[k].status) ∧ w.cell? ⟨b, off + k * 18 + 6, none⟩ = some (l[k].headers.val) ∧ w.cell? ⟨b, off + k * 18 + 7, none⟩ = some (l[k].bytes.val) ∧ w.cell? ⟨b, off + k * 18 + 8, none⟩ = some (.string l[k].method) ∧ w.cell? ⟨b, off + k * 18 + 9, none⟩ = some (.string l[k].url) ∧ w.cell? ⟨b, off + k * 18 + 10, none⟩ = some (.string l[k].origin) ∧ w.cell? ⟨b, off + k * 18 + 11, none⟩ = some (.int .i64 l[k].mode) ∧ w.cell? ⟨b, off + k * 18 + 12, none⟩ = some (.bool l[k].creds) ∧ w.cell? ⟨b, off + k * 18 + 13, none⟩ = some (l[k].rheaders.val) ∧ w.cell? ⟨b, off + k * 18 + 14, none⟩ = some (.int .i64 l[k].cls) ∧ w.cell? ⟨b, off + k * 18 + 15, none⟩ = some (.int .u64 l[k].timeout) ∧ w.cell? ⟨b, off + k * 18 + 16, none⟩ = some (.int .i64 l[k].group) ∧ w.cell? ⟨b, off + k * 18 + 17, none⟩ = some (.int .i64 l[k].signal) :=
  ⟨h k hk 0 (by decide), h k hk 1 (by decide), h k hk 2 (by decide), h k hk 3 (by decide), h k hk 4 (by decide), h k hk 5 (by decide), h k hk 6 (by decide), h k hk 7 (by decide), h k hk 8 (by decide), h k hk 9 (by decide), h k hk 10 (by decide), h k hk 11 (by decide), h k hk 12 (by decide), h k hk 13 (by decide), h k hk 14 (by decide), h k hk 15 (by decide), h k hk 16 (by decide), h k hk 17 (by decide)⟩

instance : Enc Int where
  val x := .int .i64 x
  sz := 1
  cells x := [.int .i64 x]
  len _ := rfl
  one x := by simp [Value.oneCell']
  pos := by decide
instance : Enc ByteArray where
  val x := .string x
  sz := 1
  cells x := [.string x]
  len _ := rfl
  one x := by simp [Value.oneCell']
  pos := by decide
/-- A pointer to the head of a block. -/
structure Ptr where
  b : Nat
  deriving DecidableEq
instance : Enc Ptr where
  val x := .pointer (some ⟨x.b, 0, none⟩)
  sz := 1
  cells x := [.pointer (some ⟨x.b, 0, none⟩)]
  len _ := rfl
  one x := by simp [Value.oneCell']
  pos := by decide
theorem Int.reads {w : World} {b off : Nat} {l : List Int} (h : ∀ k (hk : k < l.length) j, j < Enc.sz Int → w.cell? ⟨b, off + k * Enc.sz Int + j, none⟩ = (Enc.cells l[k])[j]?) (k : Nat) (hk : k < l.length) : w.cell? ⟨b, off + k, none⟩ = some (.int .i64 l[k]) := by
  have := h k hk 0 (by decide)
  rw [show Enc.sz Int = 1 from rfl, Nat.mul_one, Nat.add_zero] at this
  exact this
theorem Str.reads {w : World} {b off : Nat} {l : List ByteArray} (h : ∀ k (hk : k < l.length) j, j < Enc.sz ByteArray → w.cell? ⟨b, off + k * Enc.sz ByteArray + j, none⟩ = (Enc.cells l[k])[j]?) (k : Nat) (hk : k < l.length) : w.cell? ⟨b, off + k, none⟩ = some (.string l[k]) := by
  have := h k hk 0 (by decide)
  rw [show Enc.sz ByteArray = 1 from rfl, Nat.mul_one, Nat.add_zero] at this
  exact this
theorem Ptr.reads {w : World} {b off : Nat} {l : List Ptr} (h : ∀ k (hk : k < l.length) j, j < Enc.sz Ptr → w.cell? ⟨b, off + k * Enc.sz Ptr + j, none⟩ = (Enc.cells l[k])[j]?) (k : Nat) (hk : k < l.length) : w.cell? ⟨b, off + k, none⟩ = some (.pointer (some ⟨l[k].b, 0, none⟩)) := by
  have := h k hk 0 (by decide)
  rw [show Enc.sz Ptr = 1 from rfl, Nat.mul_one, Nat.add_zero] at this
  exact this
end Go.Proofs.Lk
