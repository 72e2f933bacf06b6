/- (*Store).tell, (*Store).Node. -/
import Derived.Test.YtfbcdhcgmncklaaDoorLk
namespace Go.Proofs.YtfbcdhcgmncklaaDoor
open Go Go.RowKit Go.Nd Go.Maps Go.MuLone Go.RwLone
set_option maxRecDepth 100000

theorem size41 : (Tryd.prog.info? 41).map (·.size) = some 13 := by kernel_rfl
theorem zeroPN (w : World) : (zeroValue 83).run Tryd.prog w = .ok (.pointer none) w := Tryd.zeroValue83 w
theorem built41 : Tryd.prog.built 41 [] = some Inf.zero.cells.toArray := by kernel_rfl
theorem ownsRow_slice {w : World} {base size n : Nat} {e : TypeId} {v : Value} {xs : List Value} (h : w.ownsRow base e size v n xs) : ∃ a c, v = .slice a n c := by
  rcases h.2 with ⟨rfl, rfl⟩ | ⟨g, cap, cur, rfl, _⟩
  · exact ⟨_, _, rfl⟩
  · exact ⟨_, _, rfl⟩

/-- The thirteen cells of what is known of a node, out of its row. -/
theorem nodeC_inf (a : Int) (f : Inf) (kv bv : Value) (T : TypeId) : (((some (nodeC a f kv bv, T)).getD (#[], 0)).1).extract 2 (2 + 13) =
    #[.int .u64 f.path, .int .u64 f.parent, .string f.name, .int .u32 f.mode, .string f.uid, .string f.gid, .string f.muid, .int .u32 f.atime, .int .u32 f.mtime, .int .u32 f.vers, .int .u64 f.len, .int .i64 f.opens, .int .i64 f.kids] := rfl
theorem all13 (c0 c1 c2 c3 c4 c5 c6 c7 c8 c9 c10 c11 c12 : Value) (T : TypeId) : (((some (#[c0, c1, c2, c3, c4, c5, c6, c7, c8, c9, c10, c11, c12], T)).getD (#[], 0)).1).extract 0 (0 + 13) = #[c0, c1, c2, c3, c4, c5, c6, c7, c8, c9, c10, c11, c12] := rfl

set_option maxHeartbeats 4000000 in
theorem tell_some {w : World} {s mb nb n kl kc : Nat} {F : Value → Option Value} {p : Int} {f : Inf} {ka : Option Addr} {bv : Value} {T : TypeId} (p0 : 0 ≤ p) (p1 : p < 18446744073709551616)
    (c8 : w.cell? ⟨s, 8, none⟩ = some (.map (some mb))) (hm : MapIs Tryd.prog 30 w mb n F) (hf : F (.int .u64 p) = some (.pointer (some ⟨nb, 0, none⟩)))
    (hn : row w nb = some (nodeC 0 f (.slice ka kl kc) bv, T)) :
    Calls Tryd.prog 38 #[.pointer (some ⟨s, 0, none⟩), .int .u64 p] w fun e w' =>
      e = .returned (.tuple #[.agg ({ f with kids := kl } : Inf).cells.toArray, .bool true]) ∧ Keep w w' (fun _ => False) := by
  have hs : s < w.heap.size := World.block_lt_of_cell? w ⟨s, 8, none⟩ c8
  have hnl := row_lt hn
  have hmk : ∀ o, MapIs Tryd.prog 30 (w.alloc o) mb n F := fun o => hm.keep (Keep.alloc w o (fun _ => False)) (fun h => h)
  have hl := fun o => (hmk o).look false lawU Tryd.underlying93 (zeroPN _) (keyU p0 p1)
  simp only [hf] at hl
  have hn1 : ∀ o, row (w.alloc o) nb = some (nodeC 0 f (.slice ka kl kc) bv, T) := fun o => by rw [row_alloc_past _ _ _ hnl]; exact hn
  have HN := Lib.hid hn1
  have HNW := Lib.hid hn
  clear hm hmk hf hn1 hn
  go_enter_defers Tryd.func38, Tryd.ntmps38
  go_wp2_with fail
  refine (lock_row (HN.out _)).mono ?_
  rintro e w1 ⟨rfl, h1, t1⟩
  have hz : w1.heap.size = w.heap.size + 1 := by rw [t1.size, World.size_alloc]
  have hne : w.heap.size ≠ nb := by omega
  have h0 : row w1 w.heap.size = some (Inf.zero.cells.toArray, 41) := t1.keep.row (row_alloc_at _ _ _ _ rfl) hne
  have k1 : w1.cell? ⟨nb, 15, none⟩ = some (.slice ka kl kc) := cell_row h1
  have HZ := Lib.hid hz
  have hlt : w.heap.size < w1.heap.size := by omega
  have hlt2 : nb < w1.heap.size := by omega
  have HT := Lib.hid t1
  clear hz t1 hne hl c8
  go_wp2_with (first
    | ((with_reducible apply wpList_loadS Tryd.isAgg41 Tryd.sizeOf41); (· rfl); (· rw [h1]; rfl); (rw [h1, nodeC_inf]))
    | ((with_reducible apply wpList_loadS Tryd.isAgg41 Tryd.sizeOf41); (· rfl); (· simp [go_sem]); (rw [row_alloc_at _ _ _ _ rfl, all13]))
    | ((with_reducible apply wpList_storeS size41); (· rfl); (· rfl); (· rfl); (· rfl); (· first | (simp [go_sem]; done) | (rw [row_alloc_past _ _ _ hlt, h0]; rfl))))
  have hne : nb ≠ w.heap.size := by omega
  refine leaves_cons (f := 42) (args := #[.pointer (some ⟨nb, 0, none⟩)]) (by simp) (by simp [go_sem]) ?_
  refine (unlock_row (f := f) (kv := .slice ka kl kc) (bv := bv) (T := T) .returning ?_).mono ?_
  · rw [row_alloc_past _ _ _ (by simp; omega), row_setRow_ne _ _ _ _ hne]; exact h1
  rintro e u' w3 ⟨rfl, rfl, h3, t3⟩
  have r3 : row w3 w.heap.size = some (({ f with kids := kl } : Inf).cells.toArray, 41) := by
    refine t3.keep.row ?_ (Ne.symm hne)
    rw [row_alloc_past _ _ _ (by simp; omega), row_setRow_eq, h0]; rfl
  refine ⟨_, results_cellS2 (n := 13) rfl rfl (Tryd.isAgg41 _) (Tryd.sizeOf41 _) r3 rfl, rfl, ?_⟩
  have k2 : Keep w w3 (fun b => b = nb) := by
    have a1 : Keep w w1 (fun b => b = nb) := (Keep.alloc w _ (fun b => b = nb)).trans HT.out.keep (fun _ _ h => h)
    exact t3.keep.after (fun _ _ h => h) ((a1.thenRow w.heap.size _ (fun h => absurd h (Nat.lt_irrefl _))).thenAlloc _)
  exact k2.back HNW.out h3 _

set_option maxHeartbeats 4000000 in
theorem tell_none {w : World} {s mb n : Nat} {F : Value → Option Value} {p : Int} (p0 : 0 ≤ p) (p1 : p < 18446744073709551616)
    (c8 : w.cell? ⟨s, 8, none⟩ = some (.map (some mb))) (hm : MapIs Tryd.prog 30 w mb n F) (hf : F (.int .u64 p) = none) :
    Calls Tryd.prog 38 #[.pointer (some ⟨s, 0, none⟩), .int .u64 p] w fun e w' =>
      e = .returned (.tuple #[.agg Inf.zero.cells.toArray, .bool false]) ∧ Keep w w' (fun _ => False) := by
  have hs : s < w.heap.size := World.block_lt_of_cell? w ⟨s, 8, none⟩ c8
  have hmk : ∀ o, MapIs Tryd.prog 30 (w.alloc o) mb n F := fun o => hm.keep (Keep.alloc w o (fun _ => False)) (fun h => h)
  have hl := fun o => (hmk o).look false lawU Tryd.underlying93 (zeroPN _) (keyU p0 p1)
  simp only [hf] at hl
  clear hm hmk hf
  go_enter_defers Tryd.func38, Tryd.ntmps38
  go_wp2_with (first
    | ((with_reducible apply wpList_buildS built41); · rfl)
    | ((with_reducible apply wpList_storeS size41); (· rfl); (· rfl); (· rfl); (· rfl); (· simp [go_sem])))
  exact ⟨_, results_cellS2 (cs := Inf.zero.cells.toArray) (T := 41) (n := 13) rfl rfl (Tryd.isAgg41 _) (Tryd.sizeOf41 _) (row_alloc_at _ _ _ _ rfl) rfl, rfl, Keep.alloc _ _ _⟩

/-- What a store tells of the node of a path. -/
def tellOf (l : List Ent) (p : Int) : Inf := ((find l p).map (tell l)).getD Inf.zero

theorem find_path {l : List Ent} {p : Int} {e : Ent} (h : find l p = some e) : e ∈ l ∧ e.inf.path = p := by
  unfold find at h
  exact ⟨List.mem_of_find?_eq_some h, by simpa using List.find?_some h⟩

/-- tell, of a store (whoever holds it, its table's map can be read). -/
theorem tell_any {w : World} {own : Own} {s : Nat} {A : St} {mb cb : Nat} {ov : Value} {nb : Int → Nat} (a rc : Int) {p : Int} (p0 : 0 ≤ p) (p1 : p < 18446744073709551616)
    (hrow : row w s = some (storeC a rc A.most A.next mb ov cb, 101)) (hm : MapIs Tryd.prog 30 w mb A.l.length (nodesF A.l nb))
    (hn : ∀ e ∈ A.l, ∃ kv bv bs, NodeRep w own A.l e (nb e.inf.path) kv bv bs) :
    Calls Tryd.prog 38 #[.pointer (some ⟨s, 0, none⟩), .int .u64 p] w fun e w' =>
      e = .returned (.tuple #[.agg (tellOf A.l p).cells.toArray, .bool (find A.l p).isSome]) ∧ Keep w w' (fun _ => False) := by
  have c8 : w.cell? ⟨s, 8, none⟩ = some (.map (some mb)) := cell_row hrow
  cases hf : find A.l p with
  | none =>
    have hF : nodesF A.l nb (.int .u64 p) = none := by simp [nodesF, hf]
    have := tell_none p0 p1 c8 hm hF
    simpa [tellOf, hf] using this
  | some e =>
    obtain ⟨he, rfl⟩ := find_path hf
    obtain ⟨kv, bv, bs, hr⟩ := hn e he
    have hF : nodesF A.l nb (.int .u64 e.inf.path) = some (.pointer (some ⟨nb e.inf.path, 0, none⟩)) := by simp [nodesF, hf]
    obtain ⟨ka, kc, rfl⟩ := ownsRow_slice hr.nkids
    have := tell_some p0 p1 c8 hm hF (nodeC_0 _ _ _ ▸ hr.nrow)
    simpa [tellOf, hf, tell] using this

set_option maxHeartbeats 4000000 in
theorem node_any {w : World} {own : Own} {s : Nat} {A : St} (h : Store w own s A) {p : Int} (p0 : 0 ≤ p) (p1 : p < 18446744073709551616) :
    Calls Tryd.prog 15 #[.pointer (some ⟨s, 0, none⟩), .int .u64 p] w fun e w' =>
      e = .returned (.tuple #[.agg (tellOf A.l p).cells.toArray, .bool (find A.l p).isSome]) ∧ Keep w w' (fun _ => False) := by
  obtain ⟨_, mb, cb, ov, nb, hr⟩ := h
  have h0 := hr.srow
  have hs := row_lt h0
  have HR := Lib.hid hr
  have hr1 : ∀ o, row (w.alloc o) s = some (storeC 0 0 A.most A.next mb ov cb, 101) := fun o => by rw [row_alloc_past _ _ _ hs]; exact h0
  have H1 := Lib.hid hr1
  have H0 := Lib.hid h0
  clear hr h0 hr1
  go_enter_defers Tryd.func15, Tryd.ntmps15
  go_wp2_with fail
  refine (rlock_row (H1.out _)).mono ?_
  rintro e w1 ⟨rfl, h1, t1⟩
  have hz : w1.heap.size = w.heap.size + 1 := by rw [t1.size, World.size_alloc]
  have hne : w.heap.size ≠ s := by omega
  have hres : row w1 w.heap.size = some (Inf.zero.cells.toArray, 41) := t1.keep.row (row_alloc_at _ _ _ _ rfl) hne
  have kw : Keep w w1 (· = s) := (Keep.alloc w _ (· = s)).trans t1.keep (fun _ _ h => h)
  have KW := Lib.hid kw
  have HZ := Lib.hid hz
  have HRes := Lib.hid hres
  have HS1 := Lib.hid h1
  clear t1 hz hne hres h1 kw
  go_wp2_with fail
  have hnm : mb ≠ s := fun e => by have := HR.out.mown; rw [e, HR.out.sown] at this; cases this
  refine (tell_any (own := own) 0 1 p0 p1 HS1.out (HR.out.mmap.keep KW.out hnm) ?_).mono ?_
  · intro e he
    obtain ⟨kv, bv, bs, hn⟩ := HR.out.node e he
    exact ⟨kv, bv, bs, hn.keep KW.out (fun b r hb hof hbs => by subst hbs; rw [HR.out.sown] at hb; cases hb; cases hof)⟩
  rintro e w2 ⟨rfl, k2⟩
  go_wp2_with (first
    | ((with_reducible apply wpList_storeS size41); (· rfl); (· rfl); (· rfl); (· rfl); (· rw [k2.row HRes.out (fun h => h)]; rfl)))
  have hne : s ≠ w.heap.size := by omega
  refine leaves_cons (f := 37) (args := #[.pointer (some ⟨s, 0, none⟩)]) (by simp) (by simp [go_sem]) ?_
  refine (runlock_row (most := A.most) (next := A.next) (mb := mb) (ov := ov) (cb := cb) (T := 101) .returning ?_).mono ?_
  · rw [row_setRow_ne _ _ _ _ hne]; exact k2.row HS1.out (fun h => h)
  rintro e u' w3 ⟨rfl, rfl, h3, t3⟩
  have r3 : row w3 w.heap.size = some ((tellOf A.l p).cells.toArray, 41) := by
    refine t3.keep.row ?_ (Ne.symm hne)
    rw [row_setRow_eq, k2.row HRes.out (fun h => h)]; rfl
  refine ⟨_, results_cellS2 (n := 13) rfl rfl (Tryd.isAgg41 _) (Tryd.sizeOf41 _) r3 rfl, rfl, ?_⟩
  have k5 : Keep w w3 (· = s) := t3.keep.after (fun _ _ h => h) ((k2.after (fun _ _ h => h.elim) KW.out).thenRow w.heap.size _ (fun h => absurd h (Nat.lt_irrefl _)))
  exact k5.back H0.out h3 _
end Go.Proofs.YtfbcdhcgmncklaaDoor
