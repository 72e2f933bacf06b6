/- Whole rows of cells: what a block holds, read and written whole; worlds that differ in few blocks. No dump. -/
import Derived.WalkKit
import Derived.WalkSpells
import Derived.Laws.Tables
import Derived.Laws.Rows
import Derived.Laws.NewBlocks
import Derived.Lib.Hide
import Derived.Laws.ResultCell
import Derived.BigQuiet
import Derived.Deep.QuietTactic
namespace Go.Nd
open Go Go.RowKit

/-- What block b holds, if it is a row of cells of which none is frozen. -/
def row (w : World) (b : Nat) : Option (Array Value × TypeId) :=
  match w.heap[b]? with
  | some (.cells c T fz) => if fz = (0, 0) then some (c, T) else none
  | _ => none

theorem row_iff {w : World} {b : Nat} {c : Array Value} {T : TypeId} : row w b = some (c, T) ↔ w.heap[b]? = some (.cells c T (0, 0)) := by
  unfold row
  cases h : w.heap[b]? with
  | none => simp
  | some o =>
    cases o <;> simp
    rename_i c' T' fz
    constructor
    · rintro ⟨rfl, rfl, rfl⟩; simp
    · rintro ⟨rfl, rfl, rfl⟩; simp

theorem row_lt {w : World} {b : Nat} {r : Array Value × TypeId} (h : row w b = some r) : b < w.heap.size := by
  obtain ⟨c, T⟩ := r
  exact (Array.getElem?_eq_some_iff.1 (row_iff.1 h)).1

theorem row_congr {w w' : World} {b : Nat} (h : w'.heap[b]? = w.heap[b]?) : row w' b = row w b := by simp [row, h]

theorem cell_row {w : World} {b i : Nat} {c : Array Value} {T : TypeId} (h : row w b = some (c, T)) : w.cell? ⟨b, i, none⟩ = c[i]? := by
  simp [World.cell?, row_iff.1 h]

theorem frozen_row {w : World} {b i : Nat} {c : Array Value} {T : TypeId} (h : row w b = some (c, T)) : w.frozen? ⟨b, i, none⟩ = false := by
  simp [World.frozen?, row_iff.1 h]

/-! ### rows behind a step of the world -/
@[go_sem] theorem row_alloc_at (w : World) (c : Array Value) (T : TypeId) (n : Nat) (hn : n = w.heap.size) : row (w.alloc (.cells c T)) n = some (c, T) := by
  subst hn; exact row_iff.2 (heap_alloc_new w _)
@[go_sem] theorem row_alloc_past (w : World) (o : Obj) (n : Nat) (hn : n < w.heap.size) : row (w.alloc o) n = row w n :=
  row_congr (Below.heap_alloc w o n hn)
@[go_sem] theorem row_drew (w : World) (n : Nat) : row w.drew n = row w n := rfl
@[go_sem] theorem row_drewN (w : World) (k n : Nat) : row (w.drewN k) n = row w n := rfl

theorem heap_setCell (w : World) (b i : Nat) (v : Value) {c : Array Value} {T : TypeId} {fz : Nat × Nat} (h : w.heap[b]? = some (.cells c T fz)) :
    (w.setCell ⟨b, i, none⟩ v).heap[b]? = some (.cells (c.setIfInBounds i v) T fz) := by
  simp [World.setCell, Array.getElem?_modify, h]
theorem heap_setCell_ne (w : World) (a : Addr) (v : Value) {k : Nat} (h : k ≠ a.block) : (w.setCell a v).heap[k]? = w.heap[k]? := by
  simp only [World.setCell, Array.getElem?_modify]
  rw [if_neg (by omega)]
theorem row_setCell {w : World} {b i : Nat} {v : Value} {c : Array Value} {T : TypeId} (h : row w b = some (c, T)) : row (w.setCell ⟨b, i, none⟩ v) b = some (c.setIfInBounds i v, T) :=
  row_iff.2 (heap_setCell w b i v (row_iff.1 h))
@[go_sem] theorem row_setCell_ne (w : World) (a : Addr) (v : Value) (k : Nat) (h : k ≠ a.block) : row (w.setCell a v) k = row w k := row_congr (heap_setCell_ne w a v h)
@[go_sem] theorem row_setCell_eq (w : World) (b i : Nat) (v : Value) : row (w.setCell ⟨b, i, none⟩ v) b = (row w b).map (fun r => (r.1.setIfInBounds i v, r.2)) := by
  cases h : row w b with
  | some r => obtain ⟨c, T⟩ := r; rw [row_setCell h]; rfl
  | none =>
    simp only [row, World.setCell, Array.getElem?_modify, if_true] at h ⊢
    cases hb : w.heap[b]? with
    | none => simp
    | some o =>
      rw [hb] at h
      cases o <;> simp_all

@[go_sem] theorem row_setRow_eq (w : World) (b : Nat) (cs : Array Value) : row (w.setRow b cs) b = (row w b).map (fun r => (cs, r.2)) := by
  simp only [row, World.setRow, Array.getElem?_modify, if_true]
  cases hb : w.heap[b]? with
  | none => simp
  | some o =>
    cases o <;> simp
@[go_sem] theorem row_setRow_ne (w : World) (b k : Nat) (cs : Array Value) (h : k ≠ b) : row (w.setRow b cs) k = row w k := row_congr (setRow_other w b k cs h)
@[go_sem] theorem setRow_size' (w : World) (b : Nat) (cs : Array Value) : (w.setRow b cs).heap.size = w.heap.size := setRow_size w b cs

@[go_sem] theorem setRow_alloc_at (w : World) (c d : Array Value) (T : TypeId) (n : Nat) (hn : n = w.heap.size) : (w.alloc (.cells c T)).setRow n d = w.alloc (.cells d T) := by
  subst hn
  simp only [World.setRow, World.alloc]
  congr 1
  apply Array.ext_getElem?
  intro i
  rw [Array.getElem?_modify, Array.getElem?_push, Array.getElem?_push]
  by_cases h : i = w.heap.size
  · simp [h]
  · simp [h, Ne.symm h]
@[go_sem] theorem setRow_alloc_past (w : World) (o : Obj) (d : Array Value) (n : Nat) (hn : n < w.heap.size) : (w.alloc o).setRow n d = (w.setRow n d).alloc o := by
  unfold World.setRow World.alloc
  congr 1
  apply Array.ext_getElem?
  intro k
  simp only [Array.getElem?_modify, Array.getElem?_push, Array.size_modify]
  by_cases hk : k = w.heap.size
  · subst hk
    simp [Nat.ne_of_lt hn]
  · simp [hk]
@[go_sem] theorem setRow_drew (w : World) (n : Nat) (d : Array Value) : w.drew.setRow n d = (w.setRow n d).drew := rfl

@[go_sem] theorem cell_setRow_ne (w : World) (b k i : Nat) (cs : Array Value) (h : k ≠ b) : (w.setRow b cs).cell? ⟨k, i, none⟩ = w.cell? ⟨k, i, none⟩ := by
  simp [World.cell?, setRow_other w b k cs h]
@[go_sem] theorem cell_setRow_eq (w : World) (b i : Nat) (cs : Array Value) (h : (row w b).isSome = true) : (w.setRow b cs).cell? ⟨b, i, none⟩ = cs[i]? := by
  obtain ⟨r, hr⟩ := Option.isSome_iff_exists.1 h
  exact cell_row (c := cs) (T := r.2) (by rw [row_setRow_eq, hr]; rfl)
@[go_sem] theorem frozen_setRow (w : World) (b k i : Nat) (cs : Array Value) : (w.setRow b cs).frozen? ⟨k, i, none⟩ = w.frozen? ⟨k, i, none⟩ := by
  simp only [World.frozen?, World.setRow, Array.getElem?_modify]
  by_cases hk : b = k
  · subst hk; simp only [if_true]; cases w.heap[b]? with
    | none => rfl
    | some o => cases o <;> rfl
  · simp [hk]

/-! ### a struct stored whole, loaded whole -/
section
variable {P : Program}
/-- A struct stored over a whole row. -/
theorem run_storeVar_whole (w : World) (b : Nat) (ty : TypeId) (cells : Array Value) (n : Nat) (hi : (P.info? ty).map (·.size) = some n) (hn : cells.size = n) (hr : (row w b).map (·.1.size) = some n) (h1 : cells.all (·.oneCell') = true) :
    (storeVar ty ⟨b, 0, none⟩ (.agg cells)).run P w = .ok () (w.setRow b cells) := by
  cases hb : row w b with
  | none => simp [hb] at hr
  | some r =>
    obtain ⟨c, T⟩ := r
    simp [hb] at hr
    exact run_storeVar_row w b T ty c cells (row_iff.1 hb) (by rw [hi, hn]) (by omega) h1

theorem run_loadCells_row (w : World) (b : Nat) (c : Array Value) (T : TypeId) (fz : Nat × Nat) (h : w.heap[b]? = some (.cells c T fz)) (off : Nat) :
    ∀ (n i : Nat) (acc : Array Value), off + i + n ≤ c.size → (loadCellsFrom ⟨b, off, none⟩ i n acc).run P w = .ok (acc ++ c.extract (off + i) (off + i + n)) w
  | 0, i, acc, _ => by simp [loadCellsFrom]; omega
  | n + 1, i, acc, hn => by
    have hadd : (⟨b, off, none⟩ : Addr).add i = ⟨b, off + i, none⟩ := by unfold Addr.add; split <;> simp_all
    have hc : w.cell? ⟨b, off + i, none⟩ = some c[off + i] := by simp [World.cell?, h]
    have ih := run_loadCells_row w b c T fz h off n (i + 1) (acc.push c[off + i]) (by omega)
    simp only [loadCellsFrom, Sem.run_bind, hadd]
    have hl : (load ⟨b, off + i, none⟩).run P w = .ok c[off + i] w := by simp [load, Sem.run, hc]
    rw [hl, Result.andThen_ok, ih]
    congr 1
    apply Array.ext'
    simp only [Array.toList_append, Array.toList_push, Array.toList_extract, List.append_assoc, List.cons_append, List.nil_append]
    congr 1
    have : off + (i + 1) = off + i + 1 := by omega
    rw [this]
    have e : off + i + 1 + n - (off + i + 1) = n := by omega
    have e2 : off + i + (n + 1) - (off + i) = n + 1 := by omega
    simp only [List.extract_eq_take_drop, e, e2]
    rw [List.drop_eq_getElem_cons (i := off + i) (by simpa using (by omega : off + i < c.size)), List.take_succ_cons]
    simp

/-- A struct (or a part of one) loaded whole. -/
theorem run_loadVar_part (w : World) (b off : Nat) (ty : TypeId) (n : Nat) (hagg : (isAgg ty).run P w = .ok true w) (hs : (sizeOf ty).run P w = .ok n w) (hr : (row w b).map (fun r => decide (off + n ≤ r.1.size)) = some true) :
    (loadVar ty ⟨b, off, none⟩).run P w = .ok (.agg ((((row w b).getD (#[], 0)).1).extract off (off + n))) w := by
  cases hb : row w b with
  | none => simp [hb] at hr
  | some r =>
    obtain ⟨c, T⟩ := r
    simp [hb] at hr
    have := run_loadCells_row (P := P) w b c T (0, 0) (row_iff.1 hb) off n 0 #[] (by omega)
    simp only [loadVar, Sem.run_bind, hagg, Result.andThen_ok, if_true, hs, loadCells, this, Option.getD_some]
    simp
end

/-! ### at the operation, for the walk -/
section
variable {P : Program} {ops : Array Oper} {rest : List Oper} {a : Act} {w : World} {Q : Exit → Act → World → Prop} {dst : Option Tmp} {ty tt : TypeId} {x y : Operand} {pos : String} {after : Array Edge}
theorem wpList_loadS {n b off : Nat} (hagg : ∀ w, (isAgg ty).run P w = .ok true w) (hs : ∀ w, (sizeOf ty).run P w = .ok n w) (hx : a.eval x = .pointer (some ⟨b, off, none⟩))
    (hr : (row w b).map (fun r => decide (off + n ≤ r.1.size)) = some true)
    (h : wpList P ops Q rest (a.put dst (.agg ((((row w b).getD (#[], 0)).1).extract off (off + n)))) w) : wpList P ops Q (⟨dst, .load ty x, tt, pos, after, none⟩ :: rest) a w := by
  refine wpList_plain rfl fun K hK => ?_
  unfold Oper.wp execOp
  simp only [hx, Instr.loadAt, Instr.sureAddr, Sem.run_bind, Sem.run_pure, Result.andThen_ok, run_loadVar_part w b off ty n (hagg w) (hs w) hr]
  exact hK _ _ h
theorem wpList_storeS {n b : Nat} {cells : Array Value} (hi : (P.info? ty).map (·.size) = some n) (hx : a.eval x = .pointer (some ⟨b, 0, none⟩)) (hy : a.eval y = .agg cells)
    (hn : cells.size = n) (h1 : cells.toList.all (·.oneCell') = true) (hr : (row w b).map (·.1.size) = some n)
    (h : wpList P ops Q rest (a.put dst undef) (w.setRow b cells)) : wpList P ops Q (⟨dst, .store ty x y, tt, pos, after, none⟩ :: rest) a w := by
  refine wpList_plain rfl fun K hK => ?_
  unfold Oper.wp execOp
  simp only [hx, hy, Instr.storeAt, Instr.sureAddr, Sem.run_bind, Sem.run_pure, Result.andThen_ok, run_storeVar_whole w b ty cells n hi hn hr (by simpa using h1)]
  exact hK _ _ h
theorem wpList_buildS {parts : Array (Nat × Operand)} {cells : Array Value} {l : List (Nat × Value)} (hb : P.built ty l = some cells) (hl : parts.toList.map (fun p => (p.1, a.eval p.2)) = l)
    (h : wpList P ops Q rest (a.put dst (.agg cells)) w) : wpList P ops Q (⟨dst, .build ty parts, tt, pos, after, none⟩ :: rest) a w := by
  refine wpList_plain rfl fun K hK => ?_
  have hb' : P.built ty (parts.map fun (i, x) => (i, a.eval x)).toList = some cells := by
    rw [Array.toList_map]; rw [← hb, ← hl]
  unfold Oper.wp execOp
  simp only [Sem.run_bind, run_build w ty _ cells hb', Result.andThen_ok]
  exact hK _ _ h
end

/-! ### results that lie in cells -/
section
variable {P : Program} {fn : Func} {t u : Tmp} {ty : TypeId} {tmps : Array Value} {w : World} {b n : Nat} {cs : Array Value}
theorem results_cellS (h : fn.results = #[.cell t ty]) (ht : tmps.getD t undef = .pointer (some ⟨b, 0, none⟩)) (hagg : (isAgg ty).run P w = .ok true w) (hs : (sizeOf ty).run P w = .ok n w)
    {T : TypeId} (hr : row w b = some (cs, T)) (hn : cs.size = n) : (results fn tmps).run P w = .ok (.agg cs) w := by
  have hl := run_loadVar_part (P := P) w b 0 ty n hagg hs (by simp [hr]; omega)
  have he : cs.extract 0 n = cs := by subst hn; simp
  simp only [hr, Option.getD_some, Nat.zero_add, he] at hl
  have ht' : tmps[t]?.getD undef = .pointer (some ⟨b, 0, none⟩) := by simpa using ht
  simp [results, h, ht', asAddr, hl]
theorem results_cellS2 (h : fn.results = #[.cell t ty, .tmp u]) (ht : tmps.getD t undef = .pointer (some ⟨b, 0, none⟩)) (hagg : (isAgg ty).run P w = .ok true w) (hs : (sizeOf ty).run P w = .ok n w)
    {T : TypeId} (hr : row w b = some (cs, T)) (hn : cs.size = n) : (results fn tmps).run P w = .ok (.tuple #[.agg cs, tmps.getD u undef]) w := by
  have hl := run_loadVar_part (P := P) w b 0 ty n hagg hs (by simp [hr]; omega)
  have he : cs.extract 0 n = cs := by subst hn; simp
  simp only [hr, Option.getD_some, Nat.zero_add, he] at hl
  have ht' : tmps[t]?.getD undef = .pointer (some ⟨b, 0, none⟩) := by simpa using ht
  rw [results_cell_tmp h]
  simp [ht', asAddr, hl]
end

theorem bcell {W w1 : World} (hb : Below W.heap.size W w1) : (∀ b o, b < W.heap.size → w1.cell? ⟨b, o, none⟩ = W.cell? ⟨b, o, none⟩) ∧ (∀ b o, b < W.heap.size → w1.frozen? ⟨b, o, none⟩ = W.frozen? ⟨b, o, none⟩) ∧ (∀ b, b < W.heap.size → row w1 b = row W b) :=
  ⟨fun b o h => hb.cell (p := ⟨b, o, none⟩) h, fun b o h => hb.frozen (p := ⟨b, o, none⟩) h, fun b h => row_congr (hb.block b h)⟩
theorem ret_int {k : IntKind} {a b : Int} (h : a = b) : Ending.returned (.int k a) = .returned (.int k b) := by rw [h]
theorem ret_bool {a b : Bool} (h : a = b) : Ending.returned (.bool a) = .returned (.bool b) := by rw [h]

/-! ### worlds that differ in few blocks -/
/-- w' is w, but for the old blocks of S and for new ones. -/
structure Keep (w w' : World) (S : Nat → Prop) : Prop where
  os : w'.os = w.os
  tape : w'.tape = w.tape
  output : w'.output = w.output
  size : w.heap.size ≤ w'.heap.size
  block : ∀ k, k < w.heap.size → ¬ S k → w'.heap[k]? = w.heap[k]?

theorem Keep.refl (w : World) (S : Nat → Prop) : Keep w w S := ⟨rfl, rfl, rfl, Nat.le_refl _, fun _ _ _ => rfl⟩
theorem Keep.mono {w w' : World} {S S' : Nat → Prop} (h : Keep w w' S) (hS : ∀ k, k < w.heap.size → S k → S' k) : Keep w w' S' :=
  ⟨h.os, h.tape, h.output, h.size, fun k hk hn => h.block k hk (fun hs => hn (hS k hk hs))⟩
/-- Two steps: what the second may turn is of S, or was made in the first. -/
theorem Keep.trans {a b c : World} {S S' : Nat → Prop} (h : Keep a b S) (k : Keep b c S') (hS : ∀ i, i < a.heap.size → S' i → S i) : Keep a c S :=
  ⟨k.os.trans h.os, k.tape.trans h.tape, k.output.trans h.output, Nat.le_trans h.size k.size,
    fun i hi hn => (k.block i (Nat.lt_of_lt_of_le hi h.size) (fun hs => hn (hS i hi hs))).trans (h.block i hi hn)⟩
theorem Keep.after {a b c : World} {S S' : Nat → Prop} (k : Keep b c S') (hS : ∀ i, i < a.heap.size → S' i → S i) (h : Keep a b S) : Keep a c S := h.trans k hS
theorem Keep.alloc (w : World) (o : Obj) (S : Nat → Prop) : Keep w (w.alloc o) S := ⟨rfl, rfl, rfl, by simp, fun k hk _ => Below.heap_alloc w o k hk⟩
theorem Keep.drew (w : World) (S : Nat → Prop) : Keep w w.drew S := ⟨rfl, rfl, rfl, Nat.le_refl _, fun _ _ _ => rfl⟩
theorem Keep.drewN (w : World) (n : Nat) (S : Nat → Prop) : Keep w (w.drewN n) S := ⟨rfl, rfl, rfl, Nat.le_refl _, fun _ _ _ => rfl⟩
theorem Keep.setCell (w : World) (a : Addr) (v : Value) (S : Nat → Prop) (h : a.block < w.heap.size → S a.block) : Keep w (w.setCell a v) S :=
  ⟨rfl, rfl, rfl, by simp [World.setCell], fun k hk hn => heap_setCell_ne w a v (fun e => hn (by subst e; exact h hk))⟩
theorem Keep.setRow (w : World) (b : Nat) (cs : Array Value) (S : Nat → Prop) (h : b < w.heap.size → S b) : Keep w (w.setRow b cs) S :=
  ⟨rfl, rfl, rfl, by simp, fun k hk hn => setRow_other w b k cs (fun e => hn (by subst e; exact h hk))⟩
theorem Keep.thenAlloc {a w : World} {S : Nat → Prop} (h : Keep a w S) (o : Obj) : Keep a (w.alloc o) S := h.trans (Keep.alloc w o S) (fun _ _ h => h)
theorem Keep.thenDrew {a w : World} {S : Nat → Prop} (h : Keep a w S) : Keep a w.drew S := h.trans (Keep.drew w S) (fun _ _ h => h)
theorem Keep.thenCell {a w : World} {S : Nat → Prop} (h : Keep a w S) (p : Addr) (v : Value) (hp : p.block < a.heap.size → S p.block) : Keep a (w.setCell p v) S :=
  h.trans (S' := fun b => b = p.block) (Keep.setCell w p v _ (fun _ => rfl)) (fun i hi e => by subst e; exact hp hi)
theorem Keep.thenRow {a w : World} {S : Nat → Prop} (h : Keep a w S) (b : Nat) (cs : Array Value) (hp : b < a.heap.size → S b) : Keep a (w.setRow b cs) S :=
  h.trans (S' := fun i => i = b) (Keep.setRow w b cs _ (fun _ => rfl)) (fun i hi e => by subst e; exact hp hi)
theorem Keep.belowOf {B : Nat} {w w' : World} (h : Keep w w' (fun b => B ≤ b)) (hB : B ≤ w.heap.size) : Below B w w' :=
  ⟨h.os, h.tape, h.output, h.size, fun k hk => h.block k (by omega) (by omega)⟩
theorem Keep.cell {w w' : World} {S : Nat → Prop} (h : Keep w w' S) {b o : Nat} {v : Value} (hc : w.cell? ⟨b, o, none⟩ = some v) (hb : ¬ S b) : w'.cell? ⟨b, o, none⟩ = some v := by
  rw [World.cell?_of_block (w := w) (h.block b (World.block_lt_of_cell? w _ hc) hb)]; exact hc
theorem Keep.row {w w' : World} {S : Nat → Prop} (h : Keep w w' S) {b : Nat} {r : Array Value × TypeId} (hr : row w b = some r) (hb : ¬ S b) : row w' b = some r :=
  (row_congr (h.block b (row_lt hr) hb)).trans hr
theorem Keep.of_grown {w w' : World} {r : Option Nat} {S : Nat → Prop} (h : w.grownBy w' r) (hr : ∀ k, r = some k → S k) : Keep w w' S :=
  ⟨h.os, h.tape, h.output, h.size, fun k hk hn => h.block k hk (fun e => hn (hr k e.symm))⟩
theorem Keep.below {w w' : World} (h : Keep w w' (fun _ => False)) : Below w.heap.size w w' := ⟨h.os, h.tape, h.output, h.size, fun k hk => h.block k hk (fun x => x)⟩
theorem Keep.of_below {w w' : World} (h : Below w.heap.size w w') (S : Nat → Prop) : Keep w w' S := ⟨h.os, h.tape, h.output, h.size, fun k hk _ => h.block k hk⟩
end Go.Nd
