/- turn, Do at dropping, calling, at no kind; Do of any operation (printed by wip/gen_turn.py). -/
import Derived.Test.YtfbcdhcgmncklaaDoorCallS
import Derived.Test.YtfbcdhcgmncklaaDoorDo2
import Derived.Test.YtfbcdhcgmncklaaDoorWorks
namespace Go.Proofs.YtfbcdhcgmncklaaDoor
open Go Go.RowKit Go.Nd Go.Maps Go.MuLone Go.RwLone
set_option maxRecDepth 100000


set_option maxHeartbeats 4000000 in
theorem turn_drop {w : World} {B : Nat} {own : Own} {s : Nat} {A : St} (h : Store w own s A) (hB : GB B w) (hBo : ∀ b, own b ≠ none → B ≤ b) {o : Ope} {dv : Value} (hk : o.kind = 2) (p0 : 0 ≤ o.path) (p1 : o.path < 18446744073709551616) (hx : A.next < 18446744073709551615) :
    Calls Tryd.prog 40 #[.pointer (some ⟨s, 0, none⟩), .agg (opC o dv)] w (Does w own s (A.does o)) := by
  obtain ⟨hA, mb, cb, ov, nb, hr⟩ := h
  have h0 := hr.srow
  have hs := row_lt h0
  obtain ⟨W0, hW0⟩ : ∃ W0, W0 = w.alloc (.cells (opC o dv) 53) := ⟨_, rfl⟩
  have k0 : Keep w W0 (fun _ => False) := by rw [hW0]; exact Keep.alloc _ _ _
  have r0 : row W0 w.heap.size = some (opC o dv, 53) := by rw [hW0]; exact row_alloc_at _ _ _ _ rfl
  have hr0 := hr.keep k0 (fun _ _ h => h)
  have hsW := hr0.srow
  have HW := Lib.hid (And.intro k0 (And.intro hB (And.intro hA (And.intro hr (And.intro hBo hr0)))))
  have HR0 := Lib.hid r0
  clear hr h0 hB hA hBo hr0 r0 k0
  go_enter_defers Tryd.func40, Tryd.ntmps40
  go_wp2_with fail
  rw [← hW0]
  refine (wlock_row hsW).mono ?_
  rintro e w1 ⟨rfl, r1, t1⟩
  have hne : w.heap.size ≠ s := by omega
  have rb : row w1 w.heap.size = some (opC o dv, 53) := t1.keep.row HR0.out hne
  have c8 : w1.cell? ⟨s, 8, none⟩ = some (.map (some mb)) := cell_row r1
  have b0 : w1.cell? ⟨w.heap.size, 0, none⟩ = some (.int .u8 2) := by rw [← hk]; exact cell_row rb
  have b1 : w1.cell? ⟨w.heap.size, 1, none⟩ = some (.int .u64 o.path) := cell_row rb
  have hms : mb ≠ s := fun e => by have := HW.out.2.2.2.1.mown; rw [e, HW.out.2.2.2.1.sown] at this; cases this
  have mM := HW.out.2.2.2.2.2.mmap.keep t1.keep hms
  have hlk := fun k => (mM.keep (Keep.drewN w1 k (fun _ => False)) (fun h => h)).look false lawU Tryd.underlying93 (zeroPN _) (keyU p0 p1)
  have HT1 := Lib.hid t1
  have HR1 := Lib.hid r1
  have HRB := Lib.hid rb
  clear t1 r1 rb mM hW0 hsW
  cases hfd : find A.l o.path with
  | none =>
    have hF : nodesF A.l nb (.int .u64 o.path) = none := by simp [nodesF, hfd]
    simp only [hF] at hlk
    have HD := Lib.hid hfd
    clear hfd hF
    go_wp2_with fail
    go_quiet (fail)
    generalize hV : World.drewN w1 _ = W2
    have kV : Keep w1 W2 (fun _ => False) := by rw [← hV]; exact Keep.drewN _ _ _
    have tV : Turn w1 W2 s := ⟨kV.mono (fun _ _ h => h.elim), by rw [← hV]; rfl⟩
    have r2 := kV.row HR1.out (fun h => h)
    have rb2 := kV.row HRB.out (fun h => h)
    have t2 := HT1.out.trans tV
    clear hlk c8 b0 b1 hV
    go_wp2_with fail
    refine leaves_cons (f := 53) (args := #[.pointer (some ⟨s, 0, none⟩)]) (by simp) (by simp [go_sem]) ?_
    refine (wunlock_row .returning r2).mono ?_
    rintro e u' w3 ⟨rfl, rfl, h3, t3⟩
    refine ⟨_, results_tmp2 rfl _ _ _, ?_⟩
    have e : A.does o = ((0, 80), A) := by simp [St.does, hk, HD.out]
    have hk3 : Keep w w3 (fun _ => False) := HW.out.1.trans ((t2.trans t3).keep.back HW.out.2.2.2.2.2.srow h3 _) (fun _ _ h => h)
    rw [e]
    exact ⟨rfl, own, Store.keep hk3 ⟨HW.out.2.2.1, _, _, _, _, HW.out.2.2.2.1⟩ (fun _ _ h => h), Steps.of_keep own hk3⟩
  | some d =>
    obtain ⟨hd, hdp⟩ := find_path hfd
    have hF : nodesF A.l nb (.int .u64 o.path) = some (.pointer (some ⟨nb o.path, 0, none⟩)) := by simp [nodesF, hfd]
    simp only [hF] at hlk
    have HD := Lib.hid hfd
    clear hfd hF
    go_wp2_with fail
    go_quiet (fail)
    generalize hV : World.drewN w1 _ = W2
    have kV : Keep w1 W2 (fun _ => False) := by rw [← hV]; exact Keep.drewN _ _ _
    have tV : Turn w1 W2 s := ⟨kV.mono (fun _ _ h => h.elim), by rw [← hV]; rfl⟩
    have r2 := kV.row HR1.out (fun h => h)
    have rb2 := kV.row HRB.out (fun h => h)
    have t2 := HT1.out.trans tV
    clear hlk c8 b0 b1 hV
    have b0 : W2.cell? ⟨w.heap.size, 0, none⟩ = some (.int .u8 2) := by rw [← hk]; exact cell_row rb2
    have HRB2 := Lib.hid rb2
    have HR2 := Lib.hid r2
    have HT2 := Lib.hid t2
    clear rb2 r2 t2 tV kV
    go_wp2_with fail
    have hB2 : GB B W2 := (HW.out.2.1.keep HW.out.1 (fun _ h => h.elim)).keep HT2.out.keep (fun b h => by subst h; exact HW.out.2.2.2.2.1 _ (by rw [HW.out.2.2.2.1.sown]; simp))
    have hmk := drop_st HW.out.2.2.1 HW.out.2.2.2.2.2 HT2.out HR2.out (by omega) hd
    rw [hdp] at hmk
    refine hmk.mono ?_
    rintro e w3 ⟨rfl, mb', cb', ov', nx, r3, k3, fin⟩
    have hdo : A.does o = A.drop d := by simp [St.does, hk, HD.out]
    have HF := Lib.hid fin
    have HR3 := Lib.hid r3
    clear fin r3 k3 hmk hB2
    go_wp2_with fail
    refine leaves_cons (f := 53) (args := #[.pointer (some ⟨s, 0, none⟩)]) (by simp) (by simp [go_sem]) ?_
    refine (wunlock_row .returning HR3.out).mono ?_
    rintro e u' w4 ⟨rfl, rfl, h4, t4⟩
    refine ⟨_, results_tmp2 rfl _ _ _, ?_⟩
    obtain ⟨own', h5, h6⟩ := HF.out w4 t4 h4
    rw [hdo]
    exact ⟨rfl, own', h5, (Steps.of_keep own HW.out.1).trans h6⟩

set_option maxHeartbeats 4000000 in
theorem turn_call {w : World} {B : Nat} {own : Own} {s : Nat} {A : St} (h : Store w own s A) (hB : GB B w) (hBo : ∀ b, own b ≠ none → B ≤ b) {o : Ope} {dv : Value} (hk : o.kind = 3) (p0 : 0 ≤ o.path) (p1 : o.path < 18446744073709551616) (hnm : o.name.size ≤ 4611686018427387904) (hx : A.next < 18446744073709551615) :
    Calls Tryd.prog 40 #[.pointer (some ⟨s, 0, none⟩), .agg (opC o dv)] w (Does w own s (A.does o)) := by
  obtain ⟨hA, mb, cb, ov, nb, hr⟩ := h
  have h0 := hr.srow
  have hs := row_lt h0
  obtain ⟨W0, hW0⟩ : ∃ W0, W0 = w.alloc (.cells (opC o dv) 53) := ⟨_, rfl⟩
  have k0 : Keep w W0 (fun _ => False) := by rw [hW0]; exact Keep.alloc _ _ _
  have r0 : row W0 w.heap.size = some (opC o dv, 53) := by rw [hW0]; exact row_alloc_at _ _ _ _ rfl
  have hr0 := hr.keep k0 (fun _ _ h => h)
  have hsW := hr0.srow
  have HW := Lib.hid (And.intro k0 (And.intro hB (And.intro hA (And.intro hr (And.intro hBo hr0)))))
  have HR0 := Lib.hid r0
  clear hr h0 hB hA hBo hr0 r0 k0
  go_enter_defers Tryd.func40, Tryd.ntmps40
  go_wp2_with fail
  rw [← hW0]
  refine (wlock_row hsW).mono ?_
  rintro e w1 ⟨rfl, r1, t1⟩
  have hne : w.heap.size ≠ s := by omega
  have rb : row w1 w.heap.size = some (opC o dv, 53) := t1.keep.row HR0.out hne
  have c8 : w1.cell? ⟨s, 8, none⟩ = some (.map (some mb)) := cell_row r1
  have b0 : w1.cell? ⟨w.heap.size, 0, none⟩ = some (.int .u8 3) := by rw [← hk]; exact cell_row rb
  have b1 : w1.cell? ⟨w.heap.size, 1, none⟩ = some (.int .u64 o.path) := cell_row rb
  have hms : mb ≠ s := fun e => by have := HW.out.2.2.2.1.mown; rw [e, HW.out.2.2.2.1.sown] at this; cases this
  have mM := HW.out.2.2.2.2.2.mmap.keep t1.keep hms
  have hlk := fun k => (mM.keep (Keep.drewN w1 k (fun _ => False)) (fun h => h)).look false lawU Tryd.underlying93 (zeroPN _) (keyU p0 p1)
  have HT1 := Lib.hid t1
  have HR1 := Lib.hid r1
  have HRB := Lib.hid rb
  clear t1 r1 rb mM hW0 hsW
  cases hfd : find A.l o.path with
  | none =>
    have hF : nodesF A.l nb (.int .u64 o.path) = none := by simp [nodesF, hfd]
    simp only [hF] at hlk
    have HD := Lib.hid hfd
    clear hfd hF
    go_wp2_with fail
    go_quiet (fail)
    generalize hV : World.drewN w1 _ = W2
    have kV : Keep w1 W2 (fun _ => False) := by rw [← hV]; exact Keep.drewN _ _ _
    have tV : Turn w1 W2 s := ⟨kV.mono (fun _ _ h => h.elim), by rw [← hV]; rfl⟩
    have r2 := kV.row HR1.out (fun h => h)
    have rb2 := kV.row HRB.out (fun h => h)
    have t2 := HT1.out.trans tV
    clear hlk c8 b0 b1 hV
    go_wp2_with fail
    refine leaves_cons (f := 53) (args := #[.pointer (some ⟨s, 0, none⟩)]) (by simp) (by simp [go_sem]) ?_
    refine (wunlock_row .returning r2).mono ?_
    rintro e u' w3 ⟨rfl, rfl, h3, t3⟩
    refine ⟨_, results_tmp2 rfl _ _ _, ?_⟩
    have e : A.does o = ((0, 80), A) := by simp [St.does, hk, HD.out]
    have hk3 : Keep w w3 (fun _ => False) := HW.out.1.trans ((t2.trans t3).keep.back HW.out.2.2.2.2.2.srow h3 _) (fun _ _ h => h)
    rw [e]
    exact ⟨rfl, own, Store.keep hk3 ⟨HW.out.2.2.1, _, _, _, _, HW.out.2.2.2.1⟩ (fun _ _ h => h), Steps.of_keep own hk3⟩
  | some d =>
    obtain ⟨hd, hdp⟩ := find_path hfd
    have hF : nodesF A.l nb (.int .u64 o.path) = some (.pointer (some ⟨nb o.path, 0, none⟩)) := by simp [nodesF, hfd]
    simp only [hF] at hlk
    have HD := Lib.hid hfd
    clear hfd hF
    go_wp2_with fail
    go_quiet (fail)
    generalize hV : World.drewN w1 _ = W2
    have kV : Keep w1 W2 (fun _ => False) := by rw [← hV]; exact Keep.drewN _ _ _
    have tV : Turn w1 W2 s := ⟨kV.mono (fun _ _ h => h.elim), by rw [← hV]; rfl⟩
    have r2 := kV.row HR1.out (fun h => h)
    have rb2 := kV.row HRB.out (fun h => h)
    have t2 := HT1.out.trans tV
    clear hlk c8 b0 b1 hV
    have b0 : W2.cell? ⟨w.heap.size, 0, none⟩ = some (.int .u8 3) := by rw [← hk]; exact cell_row rb2
    have HRB2 := Lib.hid rb2
    have HR2 := Lib.hid r2
    have HT2 := Lib.hid t2
    clear rb2 r2 t2 tV kV
    have b2 : W2.cell? ⟨w.heap.size, 2, none⟩ = some (.string o.name) := cell_row HRB2.out
    go_wp2_with fail
    have hB2 : GB B W2 := (HW.out.2.1.keep HW.out.1 (fun _ h => h.elim)).keep HT2.out.keep (fun b h => by subst h; exact HW.out.2.2.2.2.1 _ (by rw [HW.out.2.2.2.1.sown]; simp))
    have hmk := call_st HW.out.2.2.1 HW.out.2.2.2.2.2 HT2.out HR2.out hB2 (by omega) hd hnm
    rw [hdp] at hmk
    refine hmk.mono ?_
    rintro e w3 ⟨rfl, mb', cb', ov', nx, r3, k3, fin⟩
    have hdo : A.does o = A.call d o.name := by simp [St.does, hk, HD.out]
    have HF := Lib.hid fin
    have HR3 := Lib.hid r3
    clear fin r3 k3 hmk hB2 b2
    go_wp2_with fail
    refine leaves_cons (f := 53) (args := #[.pointer (some ⟨s, 0, none⟩)]) (by simp) (by simp [go_sem]) ?_
    refine (wunlock_row .returning HR3.out).mono ?_
    rintro e u' w4 ⟨rfl, rfl, h4, t4⟩
    refine ⟨_, results_tmp2 rfl _ _ _, ?_⟩
    obtain ⟨own', h5, h6⟩ := HF.out w4 t4 h4
    rw [hdo]
    exact ⟨rfl, own', h5, (Steps.of_keep own HW.out.1).trans h6⟩

set_option maxHeartbeats 4000000 in
theorem do_drop {w : World} {B : Nat} {own : Own} {s : Nat} {A : St} (h : Store w own s A) (hB : GB B w) (hBo : ∀ b, own b ≠ none → B ≤ b) {o : Ope} {dv : Value} (hk : o.kind = 2) (p0 : 0 ≤ o.path) (p1 : o.path < 18446744073709551616) (hx : A.next < 18446744073709551615) :
    Calls Tryd.prog 20 #[.pointer (some ⟨s, 0, none⟩), .agg (opC o dv)] w (Does w own s (A.does o)) := by
  obtain ⟨W0, hW0⟩ : ∃ W0, W0 = w.alloc (.cells (opC o dv) 53) := ⟨_, rfl⟩
  have k0 : Keep w W0 (fun _ => False) := by rw [hW0]; exact Keep.alloc _ _ _
  have r0 : row W0 w.heap.size = some (opC o dv, 53) := by rw [hW0]; exact row_alloc_at _ _ _ _ rfl
  have b0 : (w.alloc (.cells (opC o dv) 53)).cell? ⟨w.heap.size, 0, none⟩ = some (.int .u8 2) := by rw [← hW0, ← hk]; exact cell_row r0
  have H := Lib.hid (And.intro h (And.intro hB (And.intro k0 r0)))
  clear h hB k0 r0
  go_enter_defers Tryd.func20, Tryd.ntmps20
  go_wp2_with (first
      | ((with_reducible apply wpList_loadS Tryd.isAgg53 Tryd.sizeOf53); (· rfl); (· rw [← hW0, H.out.2.2.2]; rfl); (rw [← hW0, H.out.2.2.2, opC_all])))
  rw [← hW0]
  refine (turn_drop (H.out.1.keep H.out.2.2.1 (fun _ _ h => h)) (H.out.2.1.keep H.out.2.2.1 (fun _ h => h.elim)) hBo hk p0 p1 hx).mono ?_
  rintro e w2 ⟨rfl, own', h1, h2⟩
  have H2 := Lib.hid (And.intro h1 h2)
  clear h1 h2 b0
  go_wp2_with fail
  exact ⟨_, results_tmp2 rfl _ _ _, rfl, own', H2.out.1, (Steps.of_keep own H.out.2.2.1).trans H2.out.2⟩


set_option maxHeartbeats 4000000 in
theorem do_call {w : World} {B : Nat} {own : Own} {s : Nat} {A : St} (h : Store w own s A) (hB : GB B w) (hBo : ∀ b, own b ≠ none → B ≤ b) {o : Ope} {dv : Value} (hk : o.kind = 3) (p0 : 0 ≤ o.path) (p1 : o.path < 18446744073709551616) (hnm : o.name.size ≤ 4611686018427387904) (hx : A.next < 18446744073709551615) :
    Calls Tryd.prog 20 #[.pointer (some ⟨s, 0, none⟩), .agg (opC o dv)] w (Does w own s (A.does o)) := by
  obtain ⟨W0, hW0⟩ : ∃ W0, W0 = w.alloc (.cells (opC o dv) 53) := ⟨_, rfl⟩
  have k0 : Keep w W0 (fun _ => False) := by rw [hW0]; exact Keep.alloc _ _ _
  have r0 : row W0 w.heap.size = some (opC o dv, 53) := by rw [hW0]; exact row_alloc_at _ _ _ _ rfl
  have b0 : (w.alloc (.cells (opC o dv) 53)).cell? ⟨w.heap.size, 0, none⟩ = some (.int .u8 3) := by rw [← hW0, ← hk]; exact cell_row r0
  have H := Lib.hid (And.intro h (And.intro hB (And.intro k0 r0)))
  clear h hB k0 r0
  go_enter_defers Tryd.func20, Tryd.ntmps20
  go_wp2_with (first
      | ((with_reducible apply wpList_loadS Tryd.isAgg53 Tryd.sizeOf53); (· rfl); (· rw [← hW0, H.out.2.2.2]; rfl); (rw [← hW0, H.out.2.2.2, opC_all])))
  rw [← hW0]
  refine (turn_call (H.out.1.keep H.out.2.2.1 (fun _ _ h => h)) (H.out.2.1.keep H.out.2.2.1 (fun _ h => h.elim)) hBo hk p0 p1 hnm hx).mono ?_
  rintro e w2 ⟨rfl, own', h1, h2⟩
  have H2 := Lib.hid (And.intro h1 h2)
  clear h1 h2 b0
  go_wp2_with fail
  exact ⟨_, results_tmp2 rfl _ _ _, rfl, own', H2.out.1, (Steps.of_keep own H.out.2.2.1).trans H2.out.2⟩


set_option maxHeartbeats 4000000 in
theorem do_no {w : World} {own : Own} {s : Nat} {A : St} (h : Store w own s A) {o : Ope} {dv : Value} (hk : o.kind < 1 ∨ 7 < o.kind) :
    Calls Tryd.prog 20 #[.pointer (some ⟨s, 0, none⟩), .agg (opC o dv)] w (Does w own s (A.does o)) := by
  have e : A.does o = ((0, 1), A) := by unfold St.does; rw [if_pos hk]
  have b0 : (w.alloc (.cells (opC o dv) 53)).cell? ⟨w.heap.size, 0, none⟩ = some (.int .u8 o.kind) := cell_row (row_alloc_at _ _ _ _ rfl)
  have k1 : ¬ o.kind = 1 := by omega
  have k2 : ¬ o.kind = 2 := by omega
  have k3 : ¬ o.kind = 3 := by omega
  have k4 : ¬ o.kind = 4 := by omega
  have k5 : ¬ o.kind = 5 := by omega
  have k6 : ¬ o.kind = 6 := by omega
  have k7 : ¬ o.kind = 7 := by omega
  have q1 : (o.kind == 1) = false := by rw [beq_eq_false_iff_ne]; exact k1
  have q2 : (o.kind == 2) = false := by rw [beq_eq_false_iff_ne]; exact k2
  have q3 : (o.kind == 3) = false := by rw [beq_eq_false_iff_ne]; exact k3
  have q4 : (o.kind == 4) = false := by rw [beq_eq_false_iff_ne]; exact k4
  have q5 : (o.kind == 5) = false := by rw [beq_eq_false_iff_ne]; exact k5
  have q6 : (o.kind == 6) = false := by rw [beq_eq_false_iff_ne]; exact k6
  have q7 : (o.kind == 7) = false := by rw [beq_eq_false_iff_ne]; exact k7
  have H := Lib.hid (And.intro h e)
  clear h hk e
  go_enter_defers Tryd.func20, Tryd.ntmps20
  go_wp2_with fail
  rw [H.out.2]
  exact ⟨_, results_tmp2 rfl _ _ _, rfl, own, H.out.1.keep (Keep.alloc _ _ _) (fun _ _ h => h), Steps.of_keep own (Keep.alloc _ _ _)⟩

/-- An operation that can be handed in. -/
structure OpeOk (o : Ope) : Prop where
  p0 : 0 ≤ o.path
  p1 : o.path < 18446744073709551616
  name : o.name.size ≤ 4611686018427387904
  node : InfOk o.node
  o0 : 0 ≤ o.offset
  o1 : o.offset < 18446744073709551616

/-- Do, of any operation. -/
theorem do_any {B : Nat} {w : World} {own : Own} {s : Nat} {A : St} (h : Live B w own s A) {o : Ope} {dv : Value} (ok : OpeOk o) (hd : DataAt w own o.data dv) (hx : A.next < 18446744073709551615) :
    Calls Tryd.prog 20 #[.pointer (some ⟨s, 0, none⟩), .agg (opC o dv)] w (DoesL B w own s (A.does o)) := by
  refine Calls.mono (R := Does w own s (A.does o)) ?_ h.does
  by_cases hk : o.kind < 1 ∨ 7 < o.kind
  · exact do_no h.st hk
  rcases (show o.kind = 1 ∨ o.kind = 2 ∨ o.kind = 3 ∨ o.kind = 4 ∨ o.kind = 5 ∨ o.kind = 6 ∨ o.kind = 7 by omega) with k | k | k | k | k | k | k
  · exact do_make h.st h.gb h.ge k ok.p0 ok.p1 ok.node hx
  · exact do_drop h.st h.gb h.ge k ok.p0 ok.p1 hx
  · exact do_call h.st h.gb h.ge k ok.p0 ok.p1 ok.name hx
  · exact do_set h.st k ok.p0 ok.p1 h.gb h.ge ok.node
  · exact do_cut h.st k ok.p0 ok.p1 ok.o0
  · exact do_put h.st k ok.p0 ok.p1 ok.o0 ok.o1 hd
  · exact do_open h.st k ok.p0 ok.p1
end Go.Proofs.YtfbcdhcgmncklaaDoor
