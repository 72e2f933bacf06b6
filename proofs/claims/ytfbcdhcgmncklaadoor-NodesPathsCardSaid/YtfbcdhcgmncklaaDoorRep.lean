/- How a store of nodes lies in memory. -/
import Derived.DeepKeys4
import Derived.MapViews
import Derived.Test.YtfbcdhcgmncklaaDoorMaps
import Derived.Test.YtfbcdhcgmncklaaDoorSpec
import Derived.Test.YtfbcdhcgmncklaaDoorProg
import Derived.Laws.AppendOwn
import Derived.KernelRfl
import Derived.WalkKit
namespace Go.Proofs.YtfbcdhcgmncklaaDoor
open Go Go.RowKit Go.Nd Go.Maps
set_option maxRecDepth 100000

/-! ### the two kinds of keys -/
theorem lawU : Keyed Tryd.prog 30 := int_keyed Tryd.underlying30
theorem keyU {p : Int} (h0 : 0 ≤ p) (h1 : p < 18446744073709551616) : keyOf Tryd.prog 30 (.int .u64 p) = some (.int .u64 p) :=
  keyOf_int_mk Tryd.underlying30 (WalkArith.wf_u64 (by omega))
theorem laidOut : laidOutB Tryd.prog = true := by kernel_rfl
theorem lawK : Keyed Tryd.prog 121 := Keyed.of_law (deep_law_laid laidOut (m := 3) (by omega) (of_decide_eq_true (by kernel_rfl)) (by kernel_rfl) (by rw [Tryd.underlying121]))
theorem keyK {d : Int} {s : ByteArray} (h0 : 0 ≤ d) (h1 : d < 18446744073709551616) (hs : s.size ≤ maxLen) : ∃ kl, keyOf Tryd.prog 121 (.agg #[.int .u64 d, .string s]) = some kl := by
  have hw : (Lit.int .u64 d).wf = true := WalkArith.wf_u64 (by omega)
  have hkt : Tryd.prog.keyType 121 = true := by kernel_rfl
  have hc : Tryd.prog.cellsOf 121 = 2 := by kernel_rfl
  have hc1 : Tryd.prog.cellsOf 30 = 1 := by kernel_rfl
  have hc2 : Tryd.prog.cellsOf 9 = 1 := by kernel_rfl
  have hf : (Value.agg #[.int .u64 d, .string s]).formed Tryd.prog 121 = true := by simp [Value.formed, Tryd.underlying121, hc]
  obtain ⟨n, hn⟩ : ∃ n, Tryd.prog.types.size = n + 1 := ⟨Tryd.prog.types.size - 1, by have : 0 < Tryd.prog.types.size := of_decide_eq_true (by kernel_rfl); omega⟩
  unfold keyOf
  rw [Tryd.underlying121]
  simp only [hkt, hf, hn, Bool.and_self, if_true]
  simp [Program.keyLits, Tryd.underlying121, Tryd.underlying30, Tryd.underlying9, hc, hc1, hc2, Value.cells, hw, hs]

/-! ### cells -/
def nodeCells (f : Inf) (kv bv : Value) : Array Value :=
  #[.int .i32 0, .int .u32 0, .int .u64 f.path, .int .u64 f.parent, .string f.name, .int .u32 f.mode, .string f.uid, .string f.gid, .string f.muid,
    .int .u32 f.atime, .int .u32 f.mtime, .int .u32 f.vers, .int .u64 f.len, .int .i64 f.opens, .int .i64 f.kids, kv, bv]
def storeCells (most next : Int) (mb : Nat) (ov : Value) (cb : Nat) : Array Value :=
  #[.int .i32 0, .int .u32 0, .int .u32 0, .int .u32 0, .int .i32 0, .int .i32 0, .int .i64 most, .int .u64 next, .map (some mb), ov, .map (some cb)]
def u64s (l : List Int) : List Value := l.map (.int .u64)
def u8s (l : List Int) : List Value := l.map (.int .u8)

/-- What a block of a store's is for. -/
inductive Role where
  | store | nodes | child | order
  | node (p : Int)
  | kids (p : Int)
  | blocks (p : Int)
  | data (p : Int) (k : Nat)

/-- Whose node it is of. -/
def Role.of : Role → Option Int
  | .node p | .kids p | .blocks p | .data p _ => some p
  | _ => none

abbrev Own := Nat → Option Role
def Own.S (own : Own) (b : Nat) : Prop := own b ≠ none

/-- The cells of block k of a file's bytes. -/
def dataCells (d : Nat → Int) (k : Nat) : Array Value := ((List.range 256).map (fun j => Value.int .u8 (d (256 * k + j)))).toArray
def ptrV : Option Nat → Value
  | none => .pointer none
  | some b => .pointer (some ⟨b, 0, none⟩)

structure BytesRep (w : World) (own : Own) (e : Ent) (bv : Value) (bs : List (Option Nat)) : Prop where
  brow : w.ownsRow 0 122 1 bv bs.length (bs.map ptrV)
  bown : ∀ g, bv.ownBlock = some g → own g = some (Role.blocks e.inf.path)
  blen : bs.length ≤ 256
  bnone : ∀ k : Nat, bs[k]? = some none → ∀ j, j < 256 → e.data (256 * k + j) = 0
  bsome : ∀ (k b : Nat), bs[k]? = some (some b) → own b = some (Role.data e.inf.path k) ∧ Nd.row w b = some (dataCells e.data k, 123)
  bbey : ∀ i, 256 * bs.length ≤ i → e.data i = 0

structure NodeRep (w : World) (own : Own) (l : List Ent) (e : Ent) (nb : Nat) (kv bv : Value) (bs : List (Option Nat)) : Prop where
  nown : own nb = some (Role.node e.inf.path)
  nrow : Nd.row w nb = some (nodeCells e.inf kv bv, 92)
  nkids : w.ownsRow 0 30 1 kv (kids l e.inf.path).length (u64s (kids l e.inf.path))
  kown : ∀ g, kv.ownBlock = some g → own g = some (Role.kids e.inf.path)
  bytes : BytesRep w own e bv bs

def nodesF (l : List Ent) (nb : Int → Nat) : Value → Option Value
  | .int .u64 p => (find l p).map (fun _ => .pointer (some ⟨nb p, 0, none⟩))
  | _ => none
/-- A child's key, taken apart. -/
def keyParts : Value → Option (Int × ByteArray)
  | .agg cs => match cs.toList with
    | [.int .u64 d, .string s] => some (d, s)
    | _ => none
  | _ => none
def childF (l : List Ent) (v : Value) : Option Value := (keyParts v).bind fun x => (child l x.1 x.2).map (.int .u64)
theorem keyParts_inv {v : Value} {x : Int × ByteArray} (h : keyParts v = some x) : v = .agg #[.int .u64 x.1, .string x.2] := by
  cases v with
  | agg cs =>
    simp only [keyParts] at h
    split at h
    · rename_i d s hl
      cases h
      have : cs = cs.toList.toArray := rfl
      rw [this, hl]
    · cases h
  | _ => simp [keyParts] at h

structure StoreRep (w : World) (own : Own) (s : Nat) (A : St) (mb cb : Nat) (ov : Value) (nb : Int → Nat) : Prop where
  dom : ∀ b, own b ≠ none → b < w.heap.size
  sown : own s = some Role.store
  srow : Nd.row w s = some (storeCells A.most A.next mb ov cb, 101)
  mown : own mb = some Role.nodes
  mmap : MapIs Tryd.prog 30 w mb A.l.length (nodesF A.l nb)
  cown : own cb = some Role.child
  cmap : ∃ n, MapIs Tryd.prog 121 w cb n (childF A.l)
  orow : w.ownsRow 0 30 1 ov A.l.length (u64s (A.l.map (·.inf.path)))
  oown : ∀ g, ov.ownBlock = some g → own g = some Role.order
  node : ∀ e ∈ A.l, ∃ kv bv bs, NodeRep w own A.l e (nb e.inf.path) kv bv bs

/-- A store, at block s. -/
def Store (w : World) (own : Own) (s : Nat) (A : St) : Prop := StOk A ∧ ∃ mb cb ov nb, StoreRep w own s A mb cb ov nb

/-! ### a store stays while other blocks turn -/
theorem ownsRow_keep {w w' : World} {S : Nat → Prop} (k : Keep w w' S) {base : Nat} {e : TypeId} {size n : Nat} {v : Value} {xs : List Value} (h : w.ownsRow base e size v n xs) (hS : ∀ g, v.ownBlock = some g → ¬ S g) : w'.ownsRow base e size v n xs := by
  obtain ⟨h1, h2⟩ := h
  refine ⟨h1, ?_⟩
  rcases h2 with h2 | ⟨g, cap, cur, hv, hb, hg, rest⟩
  · exact .inl h2
  · exact .inr ⟨g, cap, cur, hv, hb, (k.block g (Array.getElem?_eq_some_iff.1 hg).1 (hS g (by rw [hv]; rfl))).trans hg, rest⟩

theorem BytesRep.keep {w w' : World} {S : Nat → Prop} (k : Keep w w' S) {own : Own} {e : Ent} {bv : Value} {bs : List (Option Nat)} (h : BytesRep w own e bv bs) (hS : ∀ b r, own b = some r → r.of = some e.inf.path → ¬ S b) : BytesRep w' own e bv bs :=
  ⟨ownsRow_keep k h.brow (fun g hg => hS g _ (h.bown g hg) rfl), h.bown, h.blen, h.bnone,
   fun i b hb => ⟨(h.bsome i b hb).1, k.row (h.bsome i b hb).2 (hS b _ (h.bsome i b hb).1 rfl)⟩, h.bbey⟩
theorem NodeRep.keep {w w' : World} {S : Nat → Prop} (k : Keep w w' S) {own : Own} {l : List Ent} {e : Ent} {nb : Nat} {kv bv : Value} {bs : List (Option Nat)} (h : NodeRep w own l e nb kv bv bs) (hS : ∀ b r, own b = some r → r.of = some e.inf.path → ¬ S b) : NodeRep w' own l e nb kv bv bs :=
  ⟨h.nown, k.row h.nrow (hS nb _ h.nown rfl), ownsRow_keep k h.nkids (fun g hg => hS g _ (h.kown g hg) rfl), h.kown, h.bytes.keep k hS⟩
theorem StoreRep.keep {w w' : World} {S : Nat → Prop} (k : Keep w w' S) {own : Own} {s : Nat} {A : St} {mb cb : Nat} {ov : Value} {nb : Int → Nat} (h : StoreRep w own s A mb cb ov nb) (hS : ∀ b, own b ≠ none → ¬ S b) : StoreRep w' own s A mb cb ov nb :=
  ⟨fun b hb => Nat.lt_of_lt_of_le (h.dom b hb) k.size, h.sown, k.row h.srow (hS s (by rw [h.sown]; simp)), h.mown, h.mmap.keep k (hS mb (by rw [h.mown]; simp)), h.cown,
   by obtain ⟨n, hn⟩ := h.cmap; exact ⟨n, hn.keep k (hS cb (by rw [h.cown]; simp))⟩, ownsRow_keep k h.orow (fun g hg => hS g (by rw [h.oown g hg]; simp)), h.oown,
   fun e he => by obtain ⟨kv, bv, bs, hn⟩ := h.node e he; exact ⟨kv, bv, bs, hn.keep k (fun b r hb _ => hS b (by rw [hb]; simp))⟩⟩
theorem Store.keep {w w' : World} {S : Nat → Prop} (k : Keep w w' S) {own : Own} {s : Nat} {A : St} (h : Store w own s A) (hS : ∀ b, own b ≠ none → ¬ S b) : Store w' own s A := by
  obtain ⟨ho, mb, cb, ov, nb, hr⟩ := h
  exact ⟨ho, mb, cb, ov, nb, hr.keep k hS⟩
end Go.Proofs.YtfbcdhcgmncklaaDoor
