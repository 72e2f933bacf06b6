/- The locks of a store and of a node, by rows. -/
import Derived.Test.YtfbcdhcgmncklaaDoorRep
import Derived.Test.YtfbcdhcgmncklaaDoorText
import Derived.Conc.RwLoneW
namespace Go.Proofs.YtfbcdhcgmncklaaDoor
open Go Go.RowKit Go.Nd Go.Maps Go.MuLone Go.RwLone
set_option maxRecDepth 100000

def storeC (a rc most next : Int) (mb : Nat) (ov : Value) (cb : Nat) : Array Value :=
  #[.int .i32 a, .int .u32 0, .int .u32 0, .int .u32 0, .int .i32 rc, .int .i32 0, .int .i64 most, .int .u64 next, .map (some mb), ov, .map (some cb)]
def nodeC (a : Int) (f : Inf) (kv bv : Value) : Array Value :=
  #[.int .i32 a, .int .u32 0, .int .u64 f.path, .int .u64 f.parent, .string f.name, .int .u32 f.mode, .string f.uid, .string f.gid, .string f.muid,
    .int .u32 f.atime, .int .u32 f.mtime, .int .u32 f.vers, .int .u64 f.len, .int .i64 f.opens, .int .i64 f.kids, kv, bv]
theorem storeC_0 (most next : Int) (mb : Nat) (ov : Value) (cb : Nat) : storeCells most next mb ov cb = storeC 0 0 most next mb ov cb := rfl
theorem nodeC_0 (f : Inf) (kv bv : Value) : nodeCells f kv bv = nodeC 0 f kv bv := rfl

/-- A world in which only block b has turned (no block is new). -/
structure Turn (w w' : World) (b : Nat) : Prop where
  keep : Keep w w' (· = b)
  size : w'.heap.size = w.heap.size
theorem Turn.cell (w : World) (b i : Nat) (v : Value) : Turn w (w.setCell ⟨b, i, none⟩ v) b := ⟨Keep.setCell w _ v _ (fun _ => rfl), by simp [World.setCell]⟩
theorem Turn.trans {a b c : World} {s : Nat} (h : Turn a b s) (k : Turn b c s) : Turn a c s := ⟨h.keep.trans k.keep (fun _ _ h => h), k.size.trans h.size⟩
/-- A block that holds again what it held has not turned. -/
theorem _root_.Go.Nd.Keep.back {w w' : World} {b : Nat} (h : Keep w w' (· = b)) {r : Array Value × TypeId} (h1 : row w b = some r) (h2 : row w' b = some r) (S : Nat → Prop) : Keep w w' S :=
  ⟨h.os, h.tape, h.output, h.size, fun k hk _ => by
    by_cases e : k = b
    · subst e; obtain ⟨c, T⟩ := r; rw [row_iff.1 h1, row_iff.1 h2]
    · exact h.block k hk e⟩

theorem w32a : wrap32 (0 + 1) = 1 := by unfold wrap32; omega
theorem w32b : wrap32 (1 + -1) = 0 := by unfold wrap32; omega
section
variable {w : World} {s : Nat} {most next : Int} {mb cb : Nat} {ov : Value} {T : TypeId}
theorem rlock_row (h : row w s = some (storeC 0 0 most next mb ov cb, T)) :
    Calls Tryd.prog 36 #[.pointer (some ⟨s, 0, none⟩)] w fun e w' => e = .returned (.tuple #[]) ∧ row w' s = some (storeC 0 1 most next mb ov cb, T) ∧ Turn w w' s :=
  (rlock_open Tryd.rwRLib s 0 0 (.int .i32 0) (.int .u32 0) w (cell_row h) (cell_row h) (cell_row h) (frozen_row h) (by rw [w32a]; decide)).mono fun _ _ ⟨he, hw⟩ =>
    ⟨he, by rw [hw, w32a]; exact row_setCell h, by rw [hw]; exact Turn.cell _ _ _ _⟩
theorem runlock_row (u : FrameMode) (h : row w s = some (storeC 0 1 most next mb ov cb, T)) :
    CallsD Tryd.prog 37 #[.pointer (some ⟨s, 0, none⟩)] u w fun e u' w' => u' = u ∧ e = .returned (.tuple #[]) ∧ row w' s = some (storeC 0 0 most next mb ov cb, T) ∧ Turn w w' s :=
  (runlock_deferred Tryd.rwRLib s 0 1 (.int .i32 0) (.int .u32 0) u w (cell_row h) (cell_row h) (cell_row h) (frozen_row h) (by rw [w32b]; decide)).mono fun _ _ _ ⟨hu, he, hw⟩ =>
    ⟨hu, he, by rw [hw, w32b]; exact row_setCell h, by rw [hw]; exact Turn.cell _ _ _ _⟩
theorem wlock_row (h : row w s = some (storeC 0 0 most next mb ov cb, T)) :
    Calls Tryd.prog 52 #[.pointer (some ⟨s, 0, none⟩)] w fun e w' => e = .returned (.tuple #[]) ∧ row w' s = some (storeC 1 (-1073741824) most next mb ov cb, T) ∧ Turn w w' s :=
  (wlock_free Tryd.rwWLib s 0 (.int .u32 0) (.int .u32 0) w (cell_row h) (cell_row h) (cell_row h) (cell_row h) (frozen_row h) (frozen_row h)).mono fun _ _ ⟨he, hw⟩ =>
    ⟨he, by rw [hw]; exact row_setCell (row_setCell h), by rw [hw]; exact (Turn.cell _ _ _ _).trans (Turn.cell _ _ _ _)⟩
theorem wunlock_row (u : FrameMode) (h : row w s = some (storeC 1 (-1073741824) most next mb ov cb, T)) :
    CallsD Tryd.prog 53 #[.pointer (some ⟨s, 0, none⟩)] u w fun e u' w' => u' = u ∧ e = .returned (.tuple #[]) ∧ row w' s = some (storeC 0 0 most next mb ov cb, T) ∧ Turn w w' s :=
  (wunlock_deferred Tryd.rwWLib s 0 (.int .u32 0) (.int .u32 0) u w (cell_row h) (cell_row h) (cell_row h) (cell_row h) (frozen_row h) (frozen_row h)).mono fun _ _ _ ⟨hu, he, hw⟩ =>
    ⟨hu, he, by rw [hw]; exact row_setCell (row_setCell h), by rw [hw]; exact (Turn.cell _ _ _ _).trans (Turn.cell _ _ _ _)⟩
end
section
variable {w : World} {b : Nat} {f : Inf} {kv bv : Value} {T : TypeId}
theorem lock_row (h : row w b = some (nodeC 0 f kv bv, T)) :
    Calls Tryd.prog 41 #[.pointer (some ⟨b, 0, none⟩)] w fun e w' => e = .returned (.tuple #[]) ∧ row w' b = some (nodeC 1 f kv bv, T) ∧ Turn w w' b :=
  (lock_free Tryd.muLib ⟨b, 0, none⟩ w (cell_row h) (frozen_row h)).mono fun _ _ ⟨he, hw⟩ => ⟨he, by rw [hw]; exact row_setCell h, by rw [hw]; exact Turn.cell _ _ _ _⟩
theorem unlock_row (u : FrameMode) (h : row w b = some (nodeC 1 f kv bv, T)) :
    CallsD Tryd.prog 42 #[.pointer (some ⟨b, 0, none⟩)] u w fun e u' w' => u' = u ∧ e = .returned (.tuple #[]) ∧ row w' b = some (nodeC 0 f kv bv, T) ∧ Turn w w' b :=
  (unlock_deferred Tryd.muLib ⟨b, 0, none⟩ u w (cell_row h) (frozen_row h)).mono fun _ _ _ ⟨hu, he, hw⟩ => ⟨hu, he, by rw [hw]; exact row_setCell h, by rw [hw]; exact Turn.cell _ _ _ _⟩
end

/-! ### what a store tells without looking at its nodes -/
theorem next_any {w : World} {own : Own} {s : Nat} {A : St} (h : Store w own s A) :
    Calls Tryd.prog 17 #[.pointer (some ⟨s, 0, none⟩)] w fun e w' => e = .returned (.int .u64 A.next) ∧ Keep w w' (fun _ => False) := by
  obtain ⟨_, mb, cb, ov, nb, hr⟩ := h
  have h0 := hr.srow
  clear hr
  go_enter_defers Tryd.func17, Tryd.ntmps17
  go_wp2_with fail
  refine (rlock_row h0).mono ?_
  rintro e w1 ⟨rfl, h1, t1⟩
  have c7 : w1.cell? ⟨s, 7, none⟩ = some (.int .u64 A.next) := cell_row h1
  have HT := Lib.hid t1
  have H1 := Lib.hid h1
  have H0 := Lib.hid h0
  clear t1 h1 h0
  go_wp2_with fail
  refine leaves_cons (f := 37) (args := #[.pointer (some ⟨s, 0, none⟩)]) (by simp) (by simp [go_sem]) ?_
  refine (runlock_row .returning H1.out).mono ?_
  rintro e u' w2 ⟨rfl, rfl, h2, t2⟩
  exact ⟨_, results_tmp rfl _ _ _, rfl, (HT.out.trans t2).keep.back H0.out h2 _⟩

theorem count_any {w : World} {own : Own} {s : Nat} {A : St} (h : Store w own s A) :
    Calls Tryd.prog 18 #[.pointer (some ⟨s, 0, none⟩)] w fun e w' => e = .returned (.int .i64 A.l.length) ∧ Keep w w' (fun _ => False) := by
  obtain ⟨_, mb, cb, ov, nb, hr⟩ := h
  have h0 := hr.srow
  have hne : mb ≠ s := fun e => by have := hr.mown; rw [e, hr.sown] at this; cases this
  have hm := hr.mmap
  clear hr
  go_enter_defers Tryd.func18, Tryd.ntmps18
  go_wp2_with fail
  refine (rlock_row h0).mono ?_
  rintro e w1 ⟨rfl, h1, t1⟩
  have c8 : w1.cell? ⟨s, 8, none⟩ = some (.map (some mb)) := cell_row h1
  have hl := (hm.keep t1.keep hne).len (ty := 3) Tryd.underlying93
  have HT := Lib.hid t1
  have H1 := Lib.hid h1
  have H0 := Lib.hid h0
  clear t1 h1 h0 hm
  go_wp2_with fail
  refine leaves_cons (f := 37) (args := #[.pointer (some ⟨s, 0, none⟩)]) (by simp) (by simp [go_sem]) ?_
  refine (runlock_row .returning H1.out).mono ?_
  rintro e u' w2 ⟨rfl, rfl, h2, t2⟩
  exact ⟨_, results_tmp rfl _ _ _, rfl, (HT.out.trans t2).keep.back H0.out h2 _⟩
end Go.Proofs.YtfbcdhcgmncklaaDoor
