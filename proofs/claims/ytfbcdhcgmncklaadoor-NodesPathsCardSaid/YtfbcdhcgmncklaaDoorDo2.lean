/- (*Store).Do: set, cut, opens (printed by wip/gen_do.py out of do_put). -/
import Derived.Test.YtfbcdhcgmncklaaDoorDo
import Derived.Test.YtfbcdhcgmncklaaDoorSetS
namespace Go.Proofs.YtfbcdhcgmncklaaDoor
open Go Go.RowKit Go.Nd Go.Maps Go.MuLone Go.RwLone
set_option maxRecDepth 100000

theorem does_of {A : St} (hA : StOk A) {o : Ope} {k : Int} (hk : o.kind = k) (k4 : 4 ≤ k) (k7 : k ≤ 7) {d : Ent} (hf : find A.l o.path = some d) {x : Int × Ent} (hx : d.does o = x) :
    A.does o = if x.1 = 0 then ((o.path, 0), A.now d x.2) else ((0, x.1), A) := by
  rw [← hx]; exact one_does hA (by omega) (by omega) hf
theorem does4 {d : Ent} {o : Ope} (hk : o.kind = 4) : d.does o = d.set o.mask o.node := by unfold Ent.does; rw [if_pos hk]
theorem does5 {d : Ent} {o : Ope} (hk : o.kind = 5) : d.does o = d.cut o.offset := by unfold Ent.does; rw [if_neg (by omega), if_pos hk]
theorem does7 {d : Ent} {o : Ope} (hk : o.kind = 7) : d.does o = d.opening o.n := by unfold Ent.does; rw [if_neg (by omega), if_neg (by omega), if_neg (by omega)]

set_option maxHeartbeats 4000000 in
theorem do_cut {w : World} {own : Own} {s : Nat} {A : St} (h : Store w own s A) {o : Ope} {dv : Value} (hk : o.kind = 5) (p0 : 0 ≤ o.path) (p1 : o.path < 18446744073709551616) (o0 : 0 ≤ o.offset) :
    Calls Tryd.prog 20 #[.pointer (some ⟨s, 0, none⟩), .agg (opC o dv)] w (Does w own s (A.does o)) := by
  obtain ⟨hA, mb, cb, ov, nb, hr⟩ := h
  have h0 := hr.srow
  have hs := row_lt h0
  obtain ⟨W0, hW0⟩ : ∃ W0, W0 = w.alloc (.cells (opC o dv) 53) := ⟨_, rfl⟩
  have k0 : Keep w W0 (fun _ => False) := by rw [hW0]; exact Keep.alloc _ _ _
  have r0 : row W0 w.heap.size = some (opC o dv, 53) := by rw [hW0]; exact row_alloc_at _ _ _ _ rfl
  have hr0 := hr.keep k0 (fun _ _ h => h)
  have hsW := hr0.srow
  have b0 : (w.alloc (.cells (opC o dv) 53)).cell? ⟨w.heap.size, 0, none⟩ = some (.int .u8 5) := by rw [← hW0, ← hk]; exact cell_row r0
  have HW := Lib.hid (And.intro k0 (And.intro (True.intro) (And.intro hA (And.intro hr hr0))))
  have HR0 := Lib.hid r0
  clear hr h0 hA hr0 r0 k0
  go_enter_defers Tryd.func20, Tryd.ntmps20
  go_wp2_with fail
  rw [← hW0]
  refine (rlock_row hsW).mono ?_
  rintro e w1 ⟨rfl, r1, t1⟩
  have hne : w.heap.size ≠ s := by omega
  have rb : row w1 w.heap.size = some (opC o dv, 53) := t1.keep.row HR0.out hne
  have c8 : w1.cell? ⟨s, 8, none⟩ = some (.map (some mb)) := cell_row r1
  have b1 : w1.cell? ⟨w.heap.size, 1, none⟩ = some (.int .u64 o.path) := cell_row rb
  have hms : mb ≠ s := fun e => by have := HW.out.2.2.2.1.mown; rw [e, HW.out.2.2.2.1.sown] at this; cases this
  have mM := HW.out.2.2.2.2.mmap.keep t1.keep hms
  have hlk := fun k => (mM.keep (Keep.drewN w1 k (fun _ => False)) (fun h => h)).look false lawU Tryd.underlying93 (zeroPN _) (keyU p0 p1)
  have HT1 := Lib.hid t1
  have HR1 := Lib.hid r1
  have HRB := Lib.hid rb
  clear t1 r1 rb mM hW0 hsW b0
  cases hfd : find A.l o.path with
  | none =>
    have hF : nodesF A.l nb (.int .u64 o.path) = none := by simp [nodesF, hfd]
    simp only [hF] at hlk
    have HD := Lib.hid hfd
    clear hfd hF
    go_wp2_with fail
    go_quiet (fail)
    generalize hV : World.drewN w1 _ = W2
    have kV : Keep w1 W2 (fun _ => False) := by rw [← hV]; exact Keep.drewN _ _ _
    have tV : Turn w1 W2 s := ⟨kV.mono (fun _ _ h => h.elim), by rw [← hV]; rfl⟩
    have r2 := kV.row HR1.out (fun h => h)
    have t2 := HT1.out.trans tV
    clear hlk c8 b1 hV
    go_wp2_with fail
    refine leaves_cons (f := 37) (args := #[.pointer (some ⟨s, 0, none⟩)]) (by simp) (by simp [go_sem]) ?_
    refine (runlock_row .returning r2).mono ?_
    rintro e u' w3 ⟨rfl, rfl, h3, t3⟩
    refine ⟨_, results_tmp2 rfl _ _ _, ?_⟩
    have e : A.does o = ((0, 80), A) := by simp [St.does, hk, HD.out]
    have hk3 : Keep w w3 (fun _ => False) := HW.out.1.trans ((t2.trans t3).keep.back HW.out.2.2.2.2.srow h3 _) (fun _ _ h => h)
    rw [e]
    exact ⟨rfl, own, Store.keep hk3 ⟨HW.out.2.2.1, _, _, _, _, HW.out.2.2.2.1⟩ (fun _ _ h => h), Steps.of_keep own hk3⟩
  | some d =>
    obtain ⟨hd, hdp⟩ := find_path hfd
    have hF : nodesF A.l nb (.int .u64 o.path) = some (.pointer (some ⟨nb o.path, 0, none⟩)) := by simp [nodesF, hfd]
    simp only [hF] at hlk
    have HD := Lib.hid hfd
    clear hfd hF
    go_wp2_with fail
    go_quiet (fail)
    generalize hV : World.drewN w1 _ = W2
    have kV : Keep w1 W2 (fun _ => False) := by rw [← hV]; exact Keep.drewN _ _ _
    have tV : Turn w1 W2 s := ⟨kV.mono (fun _ _ h => h.elim), by rw [← hV]; rfl⟩
    have r2 := kV.row HR1.out (fun h => h)
    have rb2 := kV.row HRB.out (fun h => h)
    have t2 := HT1.out.trans tV
    clear hlk c8 b1 hV
    obtain ⟨kv, bv, bs, hdr⟩ := HW.out.2.2.2.2.node d hd
    rw [hdp] at hdr
    have hns : nb o.path ≠ s := fun e => by have := hdr.nown; rw [e, HW.out.2.2.2.1.sown] at this; cases this
    have rn2 := t2.keep.row hdr.nrow hns
    rw [nodeC_0] at rn2
    have HDR := Lib.hid hdr
    have HRB2 := Lib.hid rb2
    have HR2 := Lib.hid r2
    have HT2 := Lib.hid t2
    clear rb2 r2 t2 tV kV hdr
    go_wp2_with fail
    refine (lock_row rn2).mono ?_
    rintro e w3 ⟨rfl, rn3, t3⟩
    have hnb2 : nb o.path < w.heap.size := HW.out.2.2.2.1.dom _ (by rw [HDR.out.nown]; simp)
    have hbn : w.heap.size ≠ nb o.path := by omega
    have rb3 := t3.keep.row HRB2.out hbn
    have b0 : w3.cell? ⟨w.heap.size, 0, none⟩ = some (.int .u8 5) := by rw [← hk]; exact cell_row rb3
    have b17 : w3.cell? ⟨w.heap.size, 17, none⟩ = some (.int .u64 o.offset) := cell_row rb3
    have hb3 : w.heap.size < w3.heap.size := row_lt rb3
    have HRB3 := Lib.hid rb3
    have HRN3 := Lib.hid rn3
    have HT3 := Lib.hid t3
    clear rb3 rn3 t3 rn2
    go_wp2_with fail
    have hk23 : Keep W0 w3 (fun b => b = s ∨ b = nb o.path) := (HT2.out.keep.mono (fun _ _ h => .inl h)).trans (HT3.out.keep.mono (S' := fun b => b = s ∨ b = nb o.path) (fun _ _ h => .inr h)) (fun _ _ h => h)
    have hby := HDR.out.bytes.keepB hk23 (fun b hb h => by
      rcases h with rfl | rfl
      · rw [HW.out.2.2.2.1.sown] at hb; rcases hb with h | ⟨j, h⟩ <;> cases h
      · rw [HDR.out.nown] at hb; rcases hb with h | ⟨j, h⟩ <;> cases h)
    have hdom3 : ∀ b, own b ≠ none → b < w3.heap.size := fun b h => Nat.lt_of_lt_of_le (HW.out.2.2.2.2.dom b h) hk23.size
    have hox : own w.heap.size = none := by
      cases h : own w.heap.size with
      | none => rfl
      | some r => exact absurd (HW.out.2.2.2.1.dom _ (by rw [h]; simp)) (Nat.lt_irrefl _)
    refine (cut_node HRN3.out HDR.out.nown hby hdom3 o0).mono ?_
    rintro e w4 ⟨rfl, own', bv', bs', op⟩
    have pd := does_of HW.out.2.2.1 hk (by omega) (by omega) HD.out (does5 (d := d) hk)
    have al := cut_alike d o.offset
    have ho := cut_entOk (HW.out.2.2.1.ok d hd) o0
    have pe := cut_err (e := d) (n := o.offset)
    generalize d.cut o.offset = pr at pd op al ho pe
    obtain ⟨er, d'⟩ := pr
    simp only at pd op al ho pe
    have rb4 := op.keep.row HRB3.out (fun h => by
      rcases h with h | h | ⟨j, h⟩
      · exact hbn h
      · rw [hox] at h; cases h
      · rw [hox] at h; cases h)
    have b1 : w4.cell? ⟨w.heap.size, 1, none⟩ = some (.int .u64 o.path) := cell_row rb4
    have hs4 := op.keep.row (HT3.out.keep.row HR2.out (Ne.symm hns)) (fun h => by
      rcases h with h | h | ⟨j, h⟩
      · exact hns h.symm
      · rw [HW.out.2.2.2.1.sown] at h; cases h
      · rw [HW.out.2.2.2.1.sown] at h; cases h)
    have HOP := Lib.hid op
    have HPD := Lib.hid pd
    have HAL := Lib.hid al
    have HHO := Lib.hid ho
    have HPE := Lib.hid pe
    have HS4 := Lib.hid hs4
    have HB4 := Lib.hid rb4
    clear op pd al ho pe hs4 rb4 hby hdom3 hk23 b17 b0
    by_cases her : er = 0
    · subst her
      go_wp2_with fail
      refine leaves_cons (f := 42) (args := #[.pointer (some ⟨nb o.path, 0, none⟩)]) (by simp) (by simp [go_sem]) ?_
      refine (unlock_row .returning HOP.out.nrow).mono ?_
      rintro e u' w5 ⟨rfl, rfl, h5, t5⟩
      have hs5 := t5.keep.row HS4.out (Ne.symm hns)
      refine leaves_cons (f := 37) (args := #[.pointer (some ⟨s, 0, none⟩)]) (fun h => by cases h) (by simp [go_sem]) ?_
      refine (runlock_row .returning hs5).mono ?_
      rintro e u' w6 ⟨rfl, rfl, h6, t6⟩
      refine ⟨_, results_tmp2 rfl _ _ _, ?_⟩
      have hfin := nodeOp_store HW.out.2.2.1 HW.out.2.2.2.2 hd (by rw [hdp]; exact HDR.out) HAL.out HHO.out HT2.out (by rw [hdp]; exact HT3.out) (by rw [hdp]; exact HOP.out) (by rw [hdp]; exact t5) (by rw [hdp]; exact h5) t6 h6
      rw [HPD.out]
      exact ⟨rfl, own', hfin.1, (Steps.of_keep own HW.out.1).trans hfin.2⟩
    · have e1 : (er != 0) = true := by simpa using her
      go_wp2_with fail
      refine leaves_cons (f := 42) (args := #[.pointer (some ⟨nb o.path, 0, none⟩)]) (by simp) (by simp [go_sem]) ?_
      refine (unlock_row .returning HOP.out.nrow).mono ?_
      rintro e u' w5 ⟨rfl, rfl, h5, t5⟩
      have hs5 := t5.keep.row HS4.out (Ne.symm hns)
      refine leaves_cons (f := 37) (args := #[.pointer (some ⟨s, 0, none⟩)]) (fun h => by cases h) (by simp [go_sem]) ?_
      refine (runlock_row .returning hs5).mono ?_
      rintro e u' w6 ⟨rfl, rfl, h6, t6⟩
      refine ⟨_, results_tmp2 rfl _ _ _, ?_⟩
      have hfin := nodeOp_store HW.out.2.2.1 HW.out.2.2.2.2 hd (by rw [hdp]; exact HDR.out) HAL.out HHO.out HT2.out (by rw [hdp]; exact HT3.out) (by rw [hdp]; exact HOP.out) (by rw [hdp]; exact t5) (by rw [hdp]; exact h5) t6 h6
      rw [HPE.out her, now_self HW.out.2.2.1 hd] at hfin
      rw [HPD.out, if_neg her]
      exact ⟨rfl, own', hfin.1, (Steps.of_keep own HW.out.1).trans hfin.2⟩

set_option maxHeartbeats 4000000 in
theorem do_open {w : World} {own : Own} {s : Nat} {A : St} (h : Store w own s A) {o : Ope} {dv : Value} (hk : o.kind = 7) (p0 : 0 ≤ o.path) (p1 : o.path < 18446744073709551616) :
    Calls Tryd.prog 20 #[.pointer (some ⟨s, 0, none⟩), .agg (opC o dv)] w (Does w own s (A.does o)) := by
  obtain ⟨hA, mb, cb, ov, nb, hr⟩ := h
  have h0 := hr.srow
  have hs := row_lt h0
  obtain ⟨W0, hW0⟩ : ∃ W0, W0 = w.alloc (.cells (opC o dv) 53) := ⟨_, rfl⟩
  have k0 : Keep w W0 (fun _ => False) := by rw [hW0]; exact Keep.alloc _ _ _
  have r0 : row W0 w.heap.size = some (opC o dv, 53) := by rw [hW0]; exact row_alloc_at _ _ _ _ rfl
  have hr0 := hr.keep k0 (fun _ _ h => h)
  have hsW := hr0.srow
  have b0 : (w.alloc (.cells (opC o dv) 53)).cell? ⟨w.heap.size, 0, none⟩ = some (.int .u8 7) := by rw [← hW0, ← hk]; exact cell_row r0
  have HW := Lib.hid (And.intro k0 (And.intro (True.intro) (And.intro hA (And.intro hr hr0))))
  have HR0 := Lib.hid r0
  clear hr h0 hA hr0 r0 k0
  go_enter_defers Tryd.func20, Tryd.ntmps20
  go_wp2_with fail
  rw [← hW0]
  refine (rlock_row hsW).mono ?_
  rintro e w1 ⟨rfl, r1, t1⟩
  have hne : w.heap.size ≠ s := by omega
  have rb : row w1 w.heap.size = some (opC o dv, 53) := t1.keep.row HR0.out hne
  have c8 : w1.cell? ⟨s, 8, none⟩ = some (.map (some mb)) := cell_row r1
  have b1 : w1.cell? ⟨w.heap.size, 1, none⟩ = some (.int .u64 o.path) := cell_row rb
  have hms : mb ≠ s := fun e => by have := HW.out.2.2.2.1.mown; rw [e, HW.out.2.2.2.1.sown] at this; cases this
  have mM := HW.out.2.2.2.2.mmap.keep t1.keep hms
  have hlk := fun k => (mM.keep (Keep.drewN w1 k (fun _ => False)) (fun h => h)).look false lawU Tryd.underlying93 (zeroPN _) (keyU p0 p1)
  have HT1 := Lib.hid t1
  have HR1 := Lib.hid r1
  have HRB := Lib.hid rb
  clear t1 r1 rb mM hW0 hsW b0
  cases hfd : find A.l o.path with
  | none =>
    have hF : nodesF A.l nb (.int .u64 o.path) = none := by simp [nodesF, hfd]
    simp only [hF] at hlk
    have HD := Lib.hid hfd
    clear hfd hF
    go_wp2_with fail
    go_quiet (fail)
    generalize hV : World.drewN w1 _ = W2
    have kV : Keep w1 W2 (fun _ => False) := by rw [← hV]; exact Keep.drewN _ _ _
    have tV : Turn w1 W2 s := ⟨kV.mono (fun _ _ h => h.elim), by rw [← hV]; rfl⟩
    have r2 := kV.row HR1.out (fun h => h)
    have t2 := HT1.out.trans tV
    clear hlk c8 b1 hV
    go_wp2_with fail
    refine leaves_cons (f := 37) (args := #[.pointer (some ⟨s, 0, none⟩)]) (by simp) (by simp [go_sem]) ?_
    refine (runlock_row .returning r2).mono ?_
    rintro e u' w3 ⟨rfl, rfl, h3, t3⟩
    refine ⟨_, results_tmp2 rfl _ _ _, ?_⟩
    have e : A.does o = ((0, 80), A) := by simp [St.does, hk, HD.out]
    have hk3 : Keep w w3 (fun _ => False) := HW.out.1.trans ((t2.trans t3).keep.back HW.out.2.2.2.2.srow h3 _) (fun _ _ h => h)
    rw [e]
    exact ⟨rfl, own, Store.keep hk3 ⟨HW.out.2.2.1, _, _, _, _, HW.out.2.2.2.1⟩ (fun _ _ h => h), Steps.of_keep own hk3⟩
  | some d =>
    obtain ⟨hd, hdp⟩ := find_path hfd
    have hF : nodesF A.l nb (.int .u64 o.path) = some (.pointer (some ⟨nb o.path, 0, none⟩)) := by simp [nodesF, hfd]
    simp only [hF] at hlk
    have HD := Lib.hid hfd
    clear hfd hF
    go_wp2_with fail
    go_quiet (fail)
    generalize hV : World.drewN w1 _ = W2
    have kV : Keep w1 W2 (fun _ => False) := by rw [← hV]; exact Keep.drewN _ _ _
    have tV : Turn w1 W2 s := ⟨kV.mono (fun _ _ h => h.elim), by rw [← hV]; rfl⟩
    have r2 := kV.row HR1.out (fun h => h)
    have rb2 := kV.row HRB.out (fun h => h)
    have t2 := HT1.out.trans tV
    clear hlk c8 b1 hV
    obtain ⟨kv, bv, bs, hdr⟩ := HW.out.2.2.2.2.node d hd
    rw [hdp] at hdr
    have hns : nb o.path ≠ s := fun e => by have := hdr.nown; rw [e, HW.out.2.2.2.1.sown] at this; cases this
    have rn2 := t2.keep.row hdr.nrow hns
    rw [nodeC_0] at rn2
    have HDR := Lib.hid hdr
    have HRB2 := Lib.hid rb2
    have HR2 := Lib.hid r2
    have HT2 := Lib.hid t2
    clear rb2 r2 t2 tV kV hdr
    go_wp2_with fail
    refine (lock_row rn2).mono ?_
    rintro e w3 ⟨rfl, rn3, t3⟩
    have hnb2 : nb o.path < w.heap.size := HW.out.2.2.2.1.dom _ (by rw [HDR.out.nown]; simp)
    have hbn : w.heap.size ≠ nb o.path := by omega
    have rb3 := t3.keep.row HRB2.out hbn
    have b0 : w3.cell? ⟨w.heap.size, 0, none⟩ = some (.int .u8 7) := by rw [← hk]; exact cell_row rb3
    have b19 : w3.cell? ⟨w.heap.size, 19, none⟩ = some (.int .i64 o.n) := cell_row rb3
    have hb3 : w.heap.size < w3.heap.size := row_lt rb3
    have HRB3 := Lib.hid rb3
    have HRN3 := Lib.hid rn3
    have HT3 := Lib.hid t3
    clear rb3 rn3 t3 rn2
    go_wp2_with fail
    have hk23 : Keep W0 w3 (fun b => b = s ∨ b = nb o.path) := (HT2.out.keep.mono (fun _ _ h => .inl h)).trans (HT3.out.keep.mono (S' := fun b => b = s ∨ b = nb o.path) (fun _ _ h => .inr h)) (fun _ _ h => h)
    have hby := HDR.out.bytes.keepB hk23 (fun b hb h => by
      rcases h with rfl | rfl
      · rw [HW.out.2.2.2.1.sown] at hb; rcases hb with h | ⟨j, h⟩ <;> cases h
      · rw [HDR.out.nown] at hb; rcases hb with h | ⟨j, h⟩ <;> cases h)
    have hdom3 : ∀ b, own b ≠ none → b < w3.heap.size := fun b h => Nat.lt_of_lt_of_le (HW.out.2.2.2.2.dom b h) hk23.size
    have hox : own w.heap.size = none := by
      cases h : own w.heap.size with
      | none => rfl
      | some r => exact absurd (HW.out.2.2.2.1.dom _ (by rw [h]; simp)) (Nat.lt_irrefl _)
    refine (open_node HRN3.out HDR.out.nown hby hdom3 (HW.out.2.2.1.ok d hd) o.n).mono ?_
    rintro e w4 ⟨rfl, own', bv', bs', op⟩
    have pd := does_of HW.out.2.2.1 hk (by omega) (by omega) HD.out (does7 (d := d) hk)
    have al := open_alike d o.n
    have ho := open_entOk (HW.out.2.2.1.ok d hd) o.n
    have pe := open_err (e := d) (n := o.n)
    generalize d.opening o.n = pr at pd op al ho pe
    obtain ⟨er, d'⟩ := pr
    simp only at pd op al ho pe
    have rb4 := op.keep.row HRB3.out (fun h => by
      rcases h with h | h | ⟨j, h⟩
      · exact hbn h
      · rw [hox] at h; cases h
      · rw [hox] at h; cases h)
    have b1 : w4.cell? ⟨w.heap.size, 1, none⟩ = some (.int .u64 o.path) := cell_row rb4
    have hs4 := op.keep.row (HT3.out.keep.row HR2.out (Ne.symm hns)) (fun h => by
      rcases h with h | h | ⟨j, h⟩
      · exact hns h.symm
      · rw [HW.out.2.2.2.1.sown] at h; cases h
      · rw [HW.out.2.2.2.1.sown] at h; cases h)
    have HOP := Lib.hid op
    have HPD := Lib.hid pd
    have HAL := Lib.hid al
    have HHO := Lib.hid ho
    have HPE := Lib.hid pe
    have HS4 := Lib.hid hs4
    have HB4 := Lib.hid rb4
    clear op pd al ho pe hs4 rb4 hby hdom3 hk23 b19 b0
    by_cases her : er = 0
    · subst her
      go_wp2_with fail
      refine leaves_cons (f := 42) (args := #[.pointer (some ⟨nb o.path, 0, none⟩)]) (by simp) (by simp [go_sem]) ?_
      refine (unlock_row .returning HOP.out.nrow).mono ?_
      rintro e u' w5 ⟨rfl, rfl, h5, t5⟩
      have hs5 := t5.keep.row HS4.out (Ne.symm hns)
      refine leaves_cons (f := 37) (args := #[.pointer (some ⟨s, 0, none⟩)]) (fun h => by cases h) (by simp [go_sem]) ?_
      refine (runlock_row .returning hs5).mono ?_
      rintro e u' w6 ⟨rfl, rfl, h6, t6⟩
      refine ⟨_, results_tmp2 rfl _ _ _, ?_⟩
      have hfin := nodeOp_store HW.out.2.2.1 HW.out.2.2.2.2 hd (by rw [hdp]; exact HDR.out) HAL.out HHO.out HT2.out (by rw [hdp]; exact HT3.out) (by rw [hdp]; exact HOP.out) (by rw [hdp]; exact t5) (by rw [hdp]; exact h5) t6 h6
      rw [HPD.out]
      exact ⟨rfl, own', hfin.1, (Steps.of_keep own HW.out.1).trans hfin.2⟩
    · have e1 : (er != 0) = true := by simpa using her
      go_wp2_with fail
      refine leaves_cons (f := 42) (args := #[.pointer (some ⟨nb o.path, 0, none⟩)]) (by simp) (by simp [go_sem]) ?_
      refine (unlock_row .returning HOP.out.nrow).mono ?_
      rintro e u' w5 ⟨rfl, rfl, h5, t5⟩
      have hs5 := t5.keep.row HS4.out (Ne.symm hns)
      refine leaves_cons (f := 37) (args := #[.pointer (some ⟨s, 0, none⟩)]) (fun h => by cases h) (by simp [go_sem]) ?_
      refine (runlock_row .returning hs5).mono ?_
      rintro e u' w6 ⟨rfl, rfl, h6, t6⟩
      refine ⟨_, results_tmp2 rfl _ _ _, ?_⟩
      have hfin := nodeOp_store HW.out.2.2.1 HW.out.2.2.2.2 hd (by rw [hdp]; exact HDR.out) HAL.out HHO.out HT2.out (by rw [hdp]; exact HT3.out) (by rw [hdp]; exact HOP.out) (by rw [hdp]; exact t5) (by rw [hdp]; exact h5) t6 h6
      rw [HPE.out her, now_self HW.out.2.2.1 hd] at hfin
      rw [HPD.out, if_neg her]
      exact ⟨rfl, own', hfin.1, (Steps.of_keep own HW.out.1).trans hfin.2⟩

set_option maxHeartbeats 4000000 in
theorem do_set {w : World} {own : Own} {s : Nat} {A : St} (h : Store w own s A) {o : Ope} {dv : Value} (hk : o.kind = 4) (p0 : 0 ≤ o.path) (p1 : o.path < 18446744073709551616) {B : Nat} (hB : GB B w) (hBo : ∀ b, own b ≠ none → B ≤ b) (hg : InfOk o.node) :
    Calls Tryd.prog 20 #[.pointer (some ⟨s, 0, none⟩), .agg (opC o dv)] w (Does w own s (A.does o)) := by
  obtain ⟨hA, mb, cb, ov, nb, hr⟩ := h
  have h0 := hr.srow
  have hs := row_lt h0
  obtain ⟨W0, hW0⟩ : ∃ W0, W0 = w.alloc (.cells (opC o dv) 53) := ⟨_, rfl⟩
  have k0 : Keep w W0 (fun _ => False) := by rw [hW0]; exact Keep.alloc _ _ _
  have r0 : row W0 w.heap.size = some (opC o dv, 53) := by rw [hW0]; exact row_alloc_at _ _ _ _ rfl
  have hr0 := hr.keep k0 (fun _ _ h => h)
  have hsW := hr0.srow
  have b0 : (w.alloc (.cells (opC o dv) 53)).cell? ⟨w.heap.size, 0, none⟩ = some (.int .u8 4) := by rw [← hW0, ← hk]; exact cell_row r0
  have HW := Lib.hid (And.intro k0 (And.intro (And.intro hB hBo) (And.intro hA (And.intro hr hr0))))
  have HR0 := Lib.hid r0
  clear hr h0 hA hB hBo hr0 r0 k0
  go_enter_defers Tryd.func20, Tryd.ntmps20
  go_wp2_with fail
  rw [← hW0]
  refine (rlock_row hsW).mono ?_
  rintro e w1 ⟨rfl, r1, t1⟩
  have hne : w.heap.size ≠ s := by omega
  have rb : row w1 w.heap.size = some (opC o dv, 53) := t1.keep.row HR0.out hne
  have c8 : w1.cell? ⟨s, 8, none⟩ = some (.map (some mb)) := cell_row r1
  have b1 : w1.cell? ⟨w.heap.size, 1, none⟩ = some (.int .u64 o.path) := cell_row rb
  have hms : mb ≠ s := fun e => by have := HW.out.2.2.2.1.mown; rw [e, HW.out.2.2.2.1.sown] at this; cases this
  have mM := HW.out.2.2.2.2.mmap.keep t1.keep hms
  have hlk := fun k => (mM.keep (Keep.drewN w1 k (fun _ => False)) (fun h => h)).look false lawU Tryd.underlying93 (zeroPN _) (keyU p0 p1)
  have HT1 := Lib.hid t1
  have HR1 := Lib.hid r1
  have HRB := Lib.hid rb
  clear t1 r1 rb mM hW0 hsW b0
  cases hfd : find A.l o.path with
  | none =>
    have hF : nodesF A.l nb (.int .u64 o.path) = none := by simp [nodesF, hfd]
    simp only [hF] at hlk
    have HD := Lib.hid hfd
    clear hfd hF
    go_wp2_with fail
    go_quiet (fail)
    generalize hV : World.drewN w1 _ = W2
    have kV : Keep w1 W2 (fun _ => False) := by rw [← hV]; exact Keep.drewN _ _ _
    have tV : Turn w1 W2 s := ⟨kV.mono (fun _ _ h => h.elim), by rw [← hV]; rfl⟩
    have r2 := kV.row HR1.out (fun h => h)
    have t2 := HT1.out.trans tV
    clear hlk c8 b1 hV
    go_wp2_with fail
    refine leaves_cons (f := 37) (args := #[.pointer (some ⟨s, 0, none⟩)]) (by simp) (by simp [go_sem]) ?_
    refine (runlock_row .returning r2).mono ?_
    rintro e u' w3 ⟨rfl, rfl, h3, t3⟩
    refine ⟨_, results_tmp2 rfl _ _ _, ?_⟩
    have e : A.does o = ((0, 80), A) := by simp [St.does, hk, HD.out]
    have hk3 : Keep w w3 (fun _ => False) := HW.out.1.trans ((t2.trans t3).keep.back HW.out.2.2.2.2.srow h3 _) (fun _ _ h => h)
    rw [e]
    exact ⟨rfl, own, Store.keep hk3 ⟨HW.out.2.2.1, _, _, _, _, HW.out.2.2.2.1⟩ (fun _ _ h => h), Steps.of_keep own hk3⟩
  | some d =>
    obtain ⟨hd, hdp⟩ := find_path hfd
    have hF : nodesF A.l nb (.int .u64 o.path) = some (.pointer (some ⟨nb o.path, 0, none⟩)) := by simp [nodesF, hfd]
    simp only [hF] at hlk
    have HD := Lib.hid hfd
    clear hfd hF
    go_wp2_with fail
    go_quiet (fail)
    generalize hV : World.drewN w1 _ = W2
    have kV : Keep w1 W2 (fun _ => False) := by rw [← hV]; exact Keep.drewN _ _ _
    have tV : Turn w1 W2 s := ⟨kV.mono (fun _ _ h => h.elim), by rw [← hV]; rfl⟩
    have r2 := kV.row HR1.out (fun h => h)
    have rb2 := kV.row HRB.out (fun h => h)
    have t2 := HT1.out.trans tV
    clear hlk c8 b1 hV
    obtain ⟨kv, bv, bs, hdr⟩ := HW.out.2.2.2.2.node d hd
    rw [hdp] at hdr
    have hns : nb o.path ≠ s := fun e => by have := hdr.nown; rw [e, HW.out.2.2.2.1.sown] at this; cases this
    have rn2 := t2.keep.row hdr.nrow hns
    rw [nodeC_0] at rn2
    have HDR := Lib.hid hdr
    have HRB2 := Lib.hid rb2
    have HR2 := Lib.hid r2
    have HT2 := Lib.hid t2
    clear rb2 r2 t2 tV kV hdr
    go_wp2_with fail
    refine (lock_row rn2).mono ?_
    rintro e w3 ⟨rfl, rn3, t3⟩
    have hnb2 : nb o.path < w.heap.size := HW.out.2.2.2.1.dom _ (by rw [HDR.out.nown]; simp)
    have hbn : w.heap.size ≠ nb o.path := by omega
    have rb3 := t3.keep.row HRB2.out hbn
    have b0 : w3.cell? ⟨w.heap.size, 0, none⟩ = some (.int .u8 4) := by rw [← hk]; exact cell_row rb3
    have b3 : w3.cell? ⟨w.heap.size, 3, none⟩ = some (.int .u8 o.mask) := cell_row rb3
    have hb3 : w.heap.size < w3.heap.size := row_lt rb3
    have HRB3 := Lib.hid rb3
    have HRN3 := Lib.hid rn3
    have HT3 := Lib.hid t3
    clear rb3 rn3 t3 rn2
    go_wp2_with (first
      | ((with_reducible apply wpList_loadS Tryd.isAgg41 Tryd.sizeOf41); (· rfl); (· rw [HRB3.out]; rfl); (rw [HRB3.out, opC_node])))
    have hk23 : Keep W0 w3 (fun b => b = s ∨ b = nb o.path) := (HT2.out.keep.mono (fun _ _ h => .inl h)).trans (HT3.out.keep.mono (S' := fun b => b = s ∨ b = nb o.path) (fun _ _ h => .inr h)) (fun _ _ h => h)
    have hby := HDR.out.bytes.keepB hk23 (fun b hb h => by
      rcases h with rfl | rfl
      · rw [HW.out.2.2.2.1.sown] at hb; rcases hb with h | ⟨j, h⟩ <;> cases h
      · rw [HDR.out.nown] at hb; rcases hb with h | ⟨j, h⟩ <;> cases h)
    have hdom3 : ∀ b, own b ≠ none → b < w3.heap.size := fun b h => Nat.lt_of_lt_of_le (HW.out.2.2.2.2.dom b h) hk23.size
    have hB3 : GB _ w3 := (HW.out.2.1.1.keep HW.out.1 (fun _ h => h.elim)).keep hk23 (fun b h => by
      rcases h with rfl | rfl
      · exact HW.out.2.1.2 _ (by rw [HW.out.2.2.2.1.sown]; simp)
      · exact HW.out.2.1.2 _ (by rw [HDR.out.nown]; simp))
    have hox : own w.heap.size = none := by
      cases h : own w.heap.size with
      | none => rfl
      | some r => exact absurd (HW.out.2.2.2.1.dom _ (by rw [h]; simp)) (Nat.lt_irrefl _)
    refine (set_node HRN3.out HDR.out.nown hby hdom3 hB3 (m := o.mask) hg).mono ?_
    rintro e w4 ⟨rfl, own', bv', bs', op⟩
    have pd := does_of HW.out.2.2.1 hk (by omega) (by omega) HD.out (does4 (d := d) hk)
    have al := set_alike d o.mask o.node
    have ho := set_entOk (HW.out.2.2.1.ok d hd) (m := o.mask) hg
    have pe := set_err (e := d) (m := o.mask) (f := o.node)
    generalize d.set o.mask o.node = pr at pd op al ho pe
    obtain ⟨er, d'⟩ := pr
    simp only at pd op al ho pe
    have rb4 := op.keep.row HRB3.out (fun h => by
      rcases h with h | h | ⟨j, h⟩
      · exact hbn h
      · rw [hox] at h; cases h
      · rw [hox] at h; cases h)
    have b1 : w4.cell? ⟨w.heap.size, 1, none⟩ = some (.int .u64 o.path) := cell_row rb4
    have hs4 := op.keep.row (HT3.out.keep.row HR2.out (Ne.symm hns)) (fun h => by
      rcases h with h | h | ⟨j, h⟩
      · exact hns h.symm
      · rw [HW.out.2.2.2.1.sown] at h; cases h
      · rw [HW.out.2.2.2.1.sown] at h; cases h)
    have HOP := Lib.hid op
    have HPD := Lib.hid pd
    have HAL := Lib.hid al
    have HHO := Lib.hid ho
    have HPE := Lib.hid pe
    have HS4 := Lib.hid hs4
    have HB4 := Lib.hid rb4
    clear op pd al ho pe hs4 rb4 hby hdom3 hk23 hB3 b3 b0
    by_cases her : er = 0
    · subst her
      go_wp2_with fail
      refine leaves_cons (f := 42) (args := #[.pointer (some ⟨nb o.path, 0, none⟩)]) (by simp) (by simp [go_sem]) ?_
      refine (unlock_row .returning HOP.out.nrow).mono ?_
      rintro e u' w5 ⟨rfl, rfl, h5, t5⟩
      have hs5 := t5.keep.row HS4.out (Ne.symm hns)
      refine leaves_cons (f := 37) (args := #[.pointer (some ⟨s, 0, none⟩)]) (fun h => by cases h) (by simp [go_sem]) ?_
      refine (runlock_row .returning hs5).mono ?_
      rintro e u' w6 ⟨rfl, rfl, h6, t6⟩
      refine ⟨_, results_tmp2 rfl _ _ _, ?_⟩
      have hfin := nodeOp_store HW.out.2.2.1 HW.out.2.2.2.2 hd (by rw [hdp]; exact HDR.out) HAL.out HHO.out HT2.out (by rw [hdp]; exact HT3.out) (by rw [hdp]; exact HOP.out) (by rw [hdp]; exact t5) (by rw [hdp]; exact h5) t6 h6
      rw [HPD.out]
      exact ⟨rfl, own', hfin.1, (Steps.of_keep own HW.out.1).trans hfin.2⟩
    · have e1 : (er != 0) = true := by simpa using her
      go_wp2_with fail
      refine leaves_cons (f := 42) (args := #[.pointer (some ⟨nb o.path, 0, none⟩)]) (by simp) (by simp [go_sem]) ?_
      refine (unlock_row .returning HOP.out.nrow).mono ?_
      rintro e u' w5 ⟨rfl, rfl, h5, t5⟩
      have hs5 := t5.keep.row HS4.out (Ne.symm hns)
      refine leaves_cons (f := 37) (args := #[.pointer (some ⟨s, 0, none⟩)]) (fun h => by cases h) (by simp [go_sem]) ?_
      refine (runlock_row .returning hs5).mono ?_
      rintro e u' w6 ⟨rfl, rfl, h6, t6⟩
      refine ⟨_, results_tmp2 rfl _ _ _, ?_⟩
      have hfin := nodeOp_store HW.out.2.2.1 HW.out.2.2.2.2 hd (by rw [hdp]; exact HDR.out) HAL.out HHO.out HT2.out (by rw [hdp]; exact HT3.out) (by rw [hdp]; exact HOP.out) (by rw [hdp]; exact t5) (by rw [hdp]; exact h5) t6 h6
      rw [HPE.out her, now_self HW.out.2.2.1 hd] at hfin
      rw [HPD.out, if_neg her]
      exact ⟨rfl, own', hfin.1, (Steps.of_keep own HW.out.1).trans hfin.2⟩

end Go.Proofs.YtfbcdhcgmncklaaDoor
