/- What a store of nodes is, and what its operations do: plain functions. No dump, no memory. -/
import Derived.WalkKit
import Derived.Laws.RangeAny
import Derived.Lib.RuneCountTail
import Derived.Lib.Bytealg
namespace Go.Nd
open Go

/-! ### texts -/
/-- The place of the first piece from pos on that makes s no text; -1: there is none. -/
def badFrom (s : ByteArray) : Nat → Nat → Int
  | 0, _ => -1
  | f + 1, pos =>
    if pos < s.size then
      if (Utf8.decode s pos).1 = 0 then (pos : Int)
      else if (Utf8.decode s pos).1 = 65533 ∧ (Utf8.decode s pos).2 = 1 then (pos : Int)
      else badFrom s f (pos + (Utf8.decode s pos).2)
    else -1
def bad (s : ByteArray) : Int := badFrom s s.size 0
def good (s : ByteArray) : Bool := decide (bad s < 0)
def userOk (s : ByteArray) : Bool := decide (s.size ≤ 32) && good s
/-- May a file be called so? -/
def nameOk (s : ByteArray) : Bool :=
  !s.toList.isEmpty && !(s.toList == [46]) && !(s.toList == [46, 46]) && decide (s.size ≤ 255) && !(decide (0 ≤ Lib.indexByte s.data.toList 47)) && good s

/-- What Check answers. -/
def nameErr (s : ByteArray) : Int := if nameOk s then 0 else 50

/-! ### numbers -/
def isDir (m : Int) : Bool := bits .and .u32 m 2147483648 != 0
def modeOk (m : Int) : Bool := bits .andNot .u32 m 3825205759 == 0

/-! ### nodes -/
/-- What is known of a node (package api's Node). -/
structure Inf where
  path : Int
  parent : Int
  name : ByteArray
  mode : Int
  uid : ByteArray
  gid : ByteArray
  muid : ByteArray
  atime : Int
  mtime : Int
  vers : Int
  len : Int
  opens : Int
  kids : Int

/-- The thirteen cells of a Node. -/
def Inf.cells (f : Inf) : List Value :=
  [.int .u64 f.path, .int .u64 f.parent, .string f.name, .int .u32 f.mode, .string f.uid, .string f.gid, .string f.muid,
   .int .u32 f.atime, .int .u32 f.mtime, .int .u32 f.vers, .int .u64 f.len, .int .i64 f.opens, .int .i64 f.kids]

def Inf.zero : Inf := ⟨0, 0, ByteArray.empty, 0, ByteArray.empty, ByteArray.empty, ByteArray.empty, 0, 0, 0, 0, 0, 0⟩

/-- A node of a store: what is known of it (its kids are counted elsewhere: 0 here); its bytes, nought beyond its length. -/
structure Ent where
  inf : Inf
  data : Nat → Int

structure St where
  most : Int
  next : Int
  l : List Ent

/-- Is it a child of p? -/
def Ent.kidOf (e : Ent) (p : Int) : Bool := e.inf.parent == p && e.inf.path != 1
def kids (l : List Ent) (p : Int) : List Int := (l.filter (·.kidOf p)).map (·.inf.path)
def find (l : List Ent) (p : Int) : Option Ent := l.find? (fun e => e.inf.path == p)
def child (l : List Ent) (p : Int) (s : ByteArray) : Option Int := (l.find? (fun e => e.kidOf p && e.inf.name == s)).map (·.inf.path)
def after (l : List Ent) (p last : Int) : Option Int := (kids l p).find? (fun q => decide (last < q))
/-- What a store tells of one of its nodes. -/
def tell (l : List Ent) (e : Ent) : Inf := { e.inf with kids := (kids l e.inf.path).length }
/-- A list in which the node of path p is f of what it was. -/
def upd (l : List Ent) (p : Int) (f : Ent → Ent) : List Ent := l.map (fun e => if e.inf.path == p then f e else e)

/-! ### a new store -/
/-- Package api's Config. -/
structure Conf where
  users : ByteArray
  owner : ByteArray
  group : ByteArray
  perm : Int
  seed : Int
  msize : Int
  fids : Int
  tags : Int
  nodes : Int
  workers : Int
def Conf.cells (c : Conf) : List Value :=
  [.string c.users, .string c.owner, .string c.group, .int .u32 c.perm, .int .u64 c.seed, .int .u32 c.msize, .int .i64 c.fids, .int .i64 c.tags, .int .i64 c.nodes, .int .i64 c.workers]
def Conf.ok (c : Conf) : Bool :=
  decide (1 ≤ c.nodes) && decide (c.nodes ≤ 4096) && (bits .andNot .u32 c.perm 511 == 0) && !c.owner.toList.isEmpty && !c.group.toList.isEmpty && userOk c.owner && userOk c.group
def rootEnt (c : Conf) : Ent :=
  ⟨⟨1, 1, ⟨#[47]⟩, bits .or .u32 2147483648 c.perm, c.owner, c.group, c.owner, 0, 0, 0, 0, 0, 0⟩, fun _ => 0⟩
def St.new (c : Conf) : St := ⟨c.nodes, 2, [rootEnt c]⟩

/-! ### operations: the path, the error, the store -/
/-- An operation (package api's Op). -/
structure Ope where
  kind : Int
  path : Int
  name : ByteArray
  mask : Int
  node : Inf
  offset : Int
  data : List Int
  n : Int

def newEnt (path parent : Int) (f : Inf) : Ent :=
  ⟨⟨path, parent, f.name, f.mode, f.uid, f.gid, f.muid, f.atime, f.mtime, 0, 0, 0, 0⟩, fun _ => 0⟩

def St.make (A : St) (d : Ent) (f : Inf) : (Int × Int) × St :=
  if !isDir d.inf.mode then ((0, 81), A)
  else if !modeOk f.mode || !userOk f.uid || !userOk f.gid || !userOk f.muid then ((0, 1), A)
  else if !nameOk f.name then ((0, 50), A)
  else if (child A.l d.inf.path f.name).isSome then ((0, 82), A)
  else if A.most ≤ (A.l.length : Int) then ((0, 83), A)
  else ((A.next, 0), { A with next := A.next + 1, l := A.l ++ [newEnt A.next d.inf.path f] })

def St.drop (A : St) (e : Ent) : (Int × Int) × St :=
  if e.inf.path = 1 then ((0, 81), A)
  else if 0 < (kids A.l e.inf.path).length then ((0, 85), A)
  else ((e.inf.path, 0), { A with l := A.l.filter (fun x => x.inf.path != e.inf.path) })

def St.call (A : St) (e : Ent) (name : ByteArray) : (Int × Int) × St :=
  if e.inf.path = 1 then ((0, 81), A)
  else if !nameOk name then ((0, 50), A)
  else if (child A.l e.inf.parent name).any (· != e.inf.path) then ((0, 82), A)
  else ((e.inf.path, 0), { A with l := upd A.l e.inf.path (fun x => { x with inf := { x.inf with name := name } }) })

/-- OpSet on a node: the error; the node. -/
def Ent.set (e : Ent) (mask : Int) (f : Inf) : Int × Ent :=
  if bits .andNot .u8 mask 127 != 0 ∨ (bits .and .u8 mask 1 != 0 ∧ !modeOk f.mode) ∨ (bits .and .u8 mask 2 != 0 ∧ !userOk f.uid) ∨ (bits .and .u8 mask 4 != 0 ∧ !userOk f.gid) ∨ (bits .and .u8 mask 8 != 0 ∧ !userOk f.muid) then (1, e)
  else if bits .and .u8 mask 1 != 0 ∧ isDir f.mode ≠ isDir e.inf.mode then (81, e)
  else (0, { e with inf := { e.inf with
      mode := if bits .and .u8 mask 1 != 0 then f.mode else e.inf.mode
      uid := if bits .and .u8 mask 2 != 0 then f.uid else e.inf.uid
      gid := if bits .and .u8 mask 4 != 0 then f.gid else e.inf.gid
      muid := if bits .and .u8 mask 8 != 0 then f.muid else e.inf.muid
      atime := if bits .and .u8 mask 16 != 0 then f.atime else e.inf.atime
      mtime := if bits .and .u8 mask 32 != 0 then f.mtime else e.inf.mtime
      vers := if bits .and .u8 mask 64 != 0 then (e.inf.vers + 1) % 4294967296 else e.inf.vers } })

def cutData (d : Nat → Int) (n : Nat) : Nat → Int := fun i => if i < n then d i else 0
def Ent.cut (e : Ent) (n : Int) : Int × Ent :=
  if isDir e.inf.mode then (81, e)
  else if 65536 < n then (86, e)
  else (0, ⟨{ e.inf with len := n }, cutData e.data n.toNat⟩)

def putData (d : Nat → Int) (off : Nat) (l : List Int) : Nat → Int := fun i => if off ≤ i ∧ i < off + l.length then l.getD (i - off) 0 else d i
def Ent.put (e : Ent) (off : Int) (l : List Int) : Int × Ent :=
  if isDir e.inf.mode then (81, e)
  else if l.length = 0 ∨ 256 - off % 256 < (l.length : Int) then (84, e)
  else if 65536 - (l.length : Int) < off then (86, e)
  else (0, ⟨{ e.inf with len := max e.inf.len (off + l.length) }, putData e.data off.toNat l⟩)

def Ent.opening (e : Ent) (n : Int) : Int × Ent :=
  if n < -e.inf.opens ∨ 2147483647 - e.inf.opens < n then (87, e)
  else (0, { e with inf := { e.inf with opens := e.inf.opens + n } })

/-- An operation upon one node alone. -/
def Ent.does (e : Ent) (o : Ope) : Int × Ent :=
  if o.kind = 4 then e.set o.mask o.node
  else if o.kind = 5 then e.cut o.offset
  else if o.kind = 6 then e.put o.offset o.data
  else e.opening o.n

def St.does (A : St) (o : Ope) : (Int × Int) × St :=
  if o.kind < 1 ∨ 7 < o.kind then ((0, 1), A)
  else match find A.l o.path with
    | none => ((0, 80), A)
    | some e =>
      if o.kind = 1 then A.make e o.node
      else if o.kind = 2 then A.drop e
      else if o.kind = 3 then A.call e o.name
      else if (e.does o).1 = 0 then ((o.path, 0), { A with l := upd A.l o.path (fun x => (x.does o).2) })
      else ((0, (e.does o).1), A)

/-- The bytes from off on, at most n. -/
def Ent.read (e : Ent) (off n : Int) : List Int :=
  if n ≤ 0 ∨ e.inf.len ≤ off then [] else (List.range (min n (e.inf.len - off)).toNat).map (fun i => e.data (off.toNat + i))

/-! ### what is so of every store -/
structure EntOk (e : Ent) : Prop where
  path0 : 1 ≤ e.inf.path
  parent0 : 1 ≤ e.inf.parent
  name : e.inf.name.size ≤ 255
  mode0 : 0 ≤ e.inf.mode
  mode1 : e.inf.mode < 4294967296
  uid : e.inf.uid.size ≤ 32
  gid : e.inf.gid.size ≤ 32
  muid : e.inf.muid.size ≤ 32
  atime0 : 0 ≤ e.inf.atime
  atime1 : e.inf.atime < 4294967296
  mtime0 : 0 ≤ e.inf.mtime
  mtime1 : e.inf.mtime < 4294967296
  vers0 : 0 ≤ e.inf.vers
  vers1 : e.inf.vers < 4294967296
  len0 : 0 ≤ e.inf.len
  len1 : e.inf.len ≤ 65536
  opens0 : 0 ≤ e.inf.opens
  opens1 : e.inf.opens ≤ 2147483647
  kids : e.inf.kids = 0
  dir : isDir e.inf.mode = true → e.inf.len = 0
  byte0 : ∀ i, 0 ≤ e.data i
  byte1 : ∀ i, e.data i < 256
  beyond : ∀ i : Nat, e.inf.len ≤ i → e.data i = 0

structure StOk (A : St) : Prop where
  most0 : 1 ≤ A.most
  most1 : A.most ≤ 4096
  len : (A.l.length : Int) ≤ A.most
  next0 : 2 ≤ A.next
  rise : A.l.Pairwise (fun a b => a.inf.path < b.inf.path)
  below : ∀ e ∈ A.l, e.inf.path < A.next
  ok : ∀ e ∈ A.l, EntOk e
  root : ∃ r t, A.l = r :: t ∧ r.inf.path = 1 ∧ r.inf.parent = 1 ∧ isDir r.inf.mode = true
  parent : ∀ e ∈ A.l, e.inf.path ≠ 1 → ∃ p ∈ A.l, p.inf.path = e.inf.parent ∧ isDir p.inf.mode = true ∧ p.inf.path < e.inf.path
  name : ∀ a ∈ A.l, ∀ b ∈ A.l, a.inf.path ≠ 1 → b.inf.path ≠ 1 → a.inf.parent = b.inf.parent → a.inf.name = b.inf.name → a = b
end Go.Nd
