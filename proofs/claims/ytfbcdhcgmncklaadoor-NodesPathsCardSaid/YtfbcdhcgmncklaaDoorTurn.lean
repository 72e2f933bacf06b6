/- (*Store).turn, when it makes. -/
import Derived.Test.YtfbcdhcgmncklaaDoorMakeS
import Derived.BigQuiet
namespace Go.Proofs.YtfbcdhcgmncklaaDoor
open Go Go.RowKit Go.Nd Go.Maps Go.MuLone Go.RwLone
set_option maxRecDepth 100000

/-- The twenty cells of an operation; dv: its data. -/
def opC (o : Ope) (dv : Value) : Array Value :=
  #[.int .u8 o.kind, .int .u64 o.path, .string o.name, .int .u8 o.mask, .int .u64 o.node.path, .int .u64 o.node.parent, .string o.node.name, .int .u32 o.node.mode, .string o.node.uid, .string o.node.gid, .string o.node.muid,
    .int .u32 o.node.atime, .int .u32 o.node.mtime, .int .u32 o.node.vers, .int .u64 o.node.len, .int .i64 o.node.opens, .int .i64 o.node.kids, .int .u64 o.offset, dv, .int .i64 o.n]

theorem opC_node (o : Ope) (dv : Value) (T : TypeId) : (((some (opC o dv, T)).getD (#[], 0)).1).extract 4 (4 + 13) = o.node.cells.toArray := rfl

/-- What an operation under the store's lock answers. -/
def Does (w : World) (own : Own) (s : Nat) (r : (Int × Int) × St) (e : Ending) (w' : World) : Prop :=
  e = .returned (.tuple #[.int .u64 r.1.1, .int .i64 r.1.2]) ∧ ∃ own', Store w' own' s r.2 ∧ Steps w w' own own'

set_option maxHeartbeats 4000000 in
theorem turn_make {w : World} {B : Nat} {own : Own} {s : Nat} {A : St} (h : Store w own s A) (hB : GB B w) (hBo : ∀ b, own b ≠ none → B ≤ b) {o : Ope} {dv : Value} (hk : o.kind = 1) (p0 : 0 ≤ o.path) (p1 : o.path < 18446744073709551616) (hf : InfOk o.node) (hx : A.next < 18446744073709551615) :
    Calls Tryd.prog 40 #[.pointer (some ⟨s, 0, none⟩), .agg (opC o dv)] w (Does w own s (A.does o)) := by
  obtain ⟨hA, mb, cb, ov, nb, hr⟩ := h
  have h0 := hr.srow
  have hs := row_lt h0
  obtain ⟨W0, hW0⟩ : ∃ W0, W0 = w.alloc (.cells (opC o dv) 53) := ⟨_, rfl⟩
  have k0 : Keep w W0 (fun _ => False) := by rw [hW0]; exact Keep.alloc _ _ _
  have r0 : row W0 w.heap.size = some (opC o dv, 53) := by rw [hW0]; exact row_alloc_at _ _ _ _ rfl
  have hr0 := hr.keep k0 (fun _ _ h => h)
  have hsW := hr0.srow
  have HW := Lib.hid (And.intro k0 (And.intro hB (And.intro hA (And.intro hr (And.intro hBo hr0)))))
  have HR0 := Lib.hid r0
  clear hr h0 hB hA hBo hr0 r0 k0
  go_enter_defers Tryd.func40, Tryd.ntmps40
  go_wp2_with fail
  rw [← hW0]
  refine (wlock_row hsW).mono ?_
  rintro e w1 ⟨rfl, r1, t1⟩
  have hne : w.heap.size ≠ s := by omega
  have rb : row w1 w.heap.size = some (opC o dv, 53) := t1.keep.row HR0.out hne
  have c8 : w1.cell? ⟨s, 8, none⟩ = some (.map (some mb)) := cell_row r1
  have b0 : w1.cell? ⟨w.heap.size, 0, none⟩ = some (.int .u8 1) := by rw [← hk]; exact cell_row rb
  have b1 : w1.cell? ⟨w.heap.size, 1, none⟩ = some (.int .u64 o.path) := cell_row rb
  have hms : mb ≠ s := fun e => by have := HW.out.2.2.2.1.mown; rw [e, HW.out.2.2.2.1.sown] at this; cases this
  have mM := HW.out.2.2.2.2.2.mmap.keep t1.keep hms
  have hlk := fun k => (mM.keep (Keep.drewN w1 k (fun _ => False)) (fun h => h)).look false lawU Tryd.underlying93 (zeroPN _) (keyU p0 p1)
  have HT1 := Lib.hid t1
  have HR1 := Lib.hid r1
  have HRB := Lib.hid rb
  clear t1 r1 rb mM hW0 hsW
  cases hfd : find A.l o.path with
  | none =>
    have hF : nodesF A.l nb (.int .u64 o.path) = none := by simp [nodesF, hfd]
    simp only [hF] at hlk
    have HD := Lib.hid hfd
    clear hfd hF
    go_wp2_with fail
    go_quiet (fail)
    generalize hV : World.drewN w1 _ = W2
    have kV : Keep w1 W2 (fun _ => False) := by rw [← hV]; exact Keep.drewN _ _ _
    have tV : Turn w1 W2 s := ⟨kV.mono (fun _ _ h => h.elim), by rw [← hV]; rfl⟩
    have r2 := kV.row HR1.out (fun h => h)
    have rb2 := kV.row HRB.out (fun h => h)
    have t2 := HT1.out.trans tV
    clear hlk c8 b0 b1 hV
    go_wp2_with fail
    refine leaves_cons (f := 53) (args := #[.pointer (some ⟨s, 0, none⟩)]) (by simp) (by simp [go_sem]) ?_
    refine (wunlock_row .returning r2).mono ?_
    rintro e u' w3 ⟨rfl, rfl, h3, t3⟩
    refine ⟨_, results_tmp2 rfl _ _ _, ?_⟩
    have e : A.does o = ((0, 80), A) := by simp [St.does, hk, HD.out]
    have hk3 : Keep w w3 (fun _ => False) := HW.out.1.trans ((t2.trans t3).keep.back HW.out.2.2.2.2.2.srow h3 _) (fun _ _ h => h)
    rw [e]
    exact ⟨rfl, own, Store.keep hk3 ⟨HW.out.2.2.1, _, _, _, _, HW.out.2.2.2.1⟩ (fun _ _ h => h), Steps.of_keep own hk3⟩
  | some d =>
    obtain ⟨hd, hdp⟩ := find_path hfd
    have hF : nodesF A.l nb (.int .u64 o.path) = some (.pointer (some ⟨nb o.path, 0, none⟩)) := by simp [nodesF, hfd]
    simp only [hF] at hlk
    have HD := Lib.hid hfd
    clear hfd hF
    go_wp2_with fail
    go_quiet (fail)
    generalize hV : World.drewN w1 _ = W2
    have kV : Keep w1 W2 (fun _ => False) := by rw [← hV]; exact Keep.drewN _ _ _
    have tV : Turn w1 W2 s := ⟨kV.mono (fun _ _ h => h.elim), by rw [← hV]; rfl⟩
    have r2 := kV.row HR1.out (fun h => h)
    have rb2 := kV.row HRB.out (fun h => h)
    have t2 := HT1.out.trans tV
    clear hlk c8 b0 b1 hV
    have b0 : W2.cell? ⟨w.heap.size, 0, none⟩ = some (.int .u8 1) := by rw [← hk]; exact cell_row rb2
    have HRB2 := Lib.hid rb2
    have HR2 := Lib.hid r2
    have HT2 := Lib.hid t2
    clear rb2 r2 t2 tV kV
    go_wp2_with (first
      | ((with_reducible apply wpList_loadS Tryd.isAgg41 Tryd.sizeOf41); (· rfl); (· rw [HRB2.out]; rfl); (rw [HRB2.out, opC_node])))
    have hB2 : GB B W2 := (HW.out.2.1.keep HW.out.1 (fun _ h => h.elim)).keep HT2.out.keep (fun b h => by subst h; exact HW.out.2.2.2.2.1 _ (by rw [HW.out.2.2.2.1.sown]; simp))
    have hmk := makes_st HW.out.2.2.1 HW.out.2.2.2.2.2 HT2.out HR2.out hB2 hd hf hx
    rw [hdp] at hmk
    refine hmk.mono ?_
    rintro e w3 ⟨rfl, mb', cb', ov', nx, r3, k3, fin⟩
    have hdo : A.does o = A.make d o.node := by simp [St.does, hk, HD.out]
    have HF := Lib.hid fin
    have HR3 := Lib.hid r3
    clear fin r3 k3 hmk hB2
    go_wp2_with fail
    refine leaves_cons (f := 53) (args := #[.pointer (some ⟨s, 0, none⟩)]) (by simp) (by simp [go_sem]) ?_
    refine (wunlock_row .returning HR3.out).mono ?_
    rintro e u' w4 ⟨rfl, rfl, h4, t4⟩
    refine ⟨_, results_tmp2 rfl _ _ _, ?_⟩
    obtain ⟨own', h5, h6⟩ := HF.out w4 t4 h4
    rw [hdo]
    exact ⟨rfl, own', h5, (Steps.of_keep own HW.out.1).trans h6⟩
end Go.Proofs.YtfbcdhcgmncklaaDoor
