/- (*Store).Do: making; laying bytes. -/
import Derived.Test.YtfbcdhcgmncklaaDoorTurn
import Derived.Test.YtfbcdhcgmncklaaDoorPutS
namespace Go.Proofs.YtfbcdhcgmncklaaDoor
open Go Go.RowKit Go.Nd Go.Maps Go.MuLone Go.RwLone
set_option maxRecDepth 100000

theorem opC_all (o : Ope) (dv : Value) (T : TypeId) : (((some (opC o dv, T)).getD (#[], 0)).1).extract 0 (0 + 20) = opC o dv := by
  have h : (opC o dv).size = 20 := rfl
  show (opC o dv).extract 0 20 = _
  rw [← h]; exact Array.extract_size

set_option maxHeartbeats 4000000 in
theorem do_make {w : World} {B : Nat} {own : Own} {s : Nat} {A : St} (h : Store w own s A) (hB : GB B w) (hBo : ∀ b, own b ≠ none → B ≤ b) {o : Ope} {dv : Value} (hk : o.kind = 1) (p0 : 0 ≤ o.path) (p1 : o.path < 18446744073709551616) (hf : InfOk o.node) (hx : A.next < 18446744073709551615) :
    Calls Tryd.prog 20 #[.pointer (some ⟨s, 0, none⟩), .agg (opC o dv)] w (Does w own s (A.does o)) := by
  obtain ⟨W0, hW0⟩ : ∃ W0, W0 = w.alloc (.cells (opC o dv) 53) := ⟨_, rfl⟩
  have k0 : Keep w W0 (fun _ => False) := by rw [hW0]; exact Keep.alloc _ _ _
  have r0 : row W0 w.heap.size = some (opC o dv, 53) := by rw [hW0]; exact row_alloc_at _ _ _ _ rfl
  have b0 : (w.alloc (.cells (opC o dv) 53)).cell? ⟨w.heap.size, 0, none⟩ = some (.int .u8 1) := by rw [← hW0, ← hk]; exact cell_row r0
  have H := Lib.hid (And.intro h (And.intro hB (And.intro k0 r0)))
  clear h hB k0 r0
  go_enter_defers Tryd.func20, Tryd.ntmps20
  go_wp2_with (first
      | ((with_reducible apply wpList_loadS Tryd.isAgg53 Tryd.sizeOf53); (· rfl); (· rw [← hW0, H.out.2.2.2]; rfl); (rw [← hW0, H.out.2.2.2, opC_all])))
  rw [← hW0]
  refine (turn_make (H.out.1.keep H.out.2.2.1 (fun _ _ h => h)) (H.out.2.1.keep H.out.2.2.1 (fun _ h => h.elim)) hBo hk p0 p1 hf hx).mono ?_
  rintro e w2 ⟨rfl, own', h1, h2⟩
  have H2 := Lib.hid (And.intro h1 h2)
  clear h1 h2 b0
  go_wp2_with fail
  exact ⟨_, results_tmp2 rfl _ _ _, rfl, own', H2.out.1, (Steps.of_keep own H.out.2.2.1).trans H2.out.2⟩

theorem keep_drop {w w' : World} {s : Nat} {T : Nat → Prop} (h : Keep w w' (fun b => b = s ∨ T b)) {r : Array Value × TypeId} (h1 : row w s = some r) (h2 : row w' s = some r) : Keep w w' T :=
  ⟨h.os, h.tape, h.output, h.size, fun k hk hT => by
    by_cases e : k = s
    · subst e; obtain ⟨c, T⟩ := r; rw [row_iff.1 h1, row_iff.1 h2]
    · exact h.block k hk (fun hh => hh.elim e hT)⟩
theorem now_self {A : St} (h : StOk A) {e : Ent} (he : e ∈ A.l) : A.now e e = A := by
  have : upd A.l e.inf.path (fun _ => e) = A.l := by
    unfold upd
    conv => rhs; rw [← List.map_id A.l]
    apply List.map_congr_left
    intro x hx
    split
    · rename_i hp; exact (path_inj h hx he (by simpa using hp)).symm
    · rfl
  unfold St.now
  rw [this]
theorem put_alike (e : Ent) (off : Int) (l : List Int) : Alike e (e.put off l).2 := by
  unfold Ent.put
  repeat' split
  all_goals exact ⟨rfl, rfl, rfl, rfl⟩
theorem put_entOk {e : Ent} (h : EntOk e) {off : Int} (o0 : 0 ≤ off) {l : List Int} (hl : ∀ v ∈ l, 0 ≤ v ∧ v < 256) : EntOk (e.put off l).2 := by
  unfold Ent.put
  split
  · exact h
  rename_i h1
  split
  · exact h
  split
  · exact h
  · exact entOk_put h o0 hl (by simpa using h1) (by omega)
theorem put_err {e : Ent} {off : Int} {l : List Int} (h : (e.put off l).1 ≠ 0) : (e.put off l).2 = e := by
  revert h
  unfold Ent.put
  repeat' split
  all_goals simp
theorem put_does {A : St} (hA : StOk A) {o : Ope} (hk : o.kind = 6) {d : Ent} (hf : find A.l o.path = some d) :
    A.does o = if (d.put o.offset o.data).1 = 0 then ((o.path, 0), A.now d (d.put o.offset o.data).2) else ((0, (d.put o.offset o.data).1), A) := by
  obtain ⟨hd, hp⟩ := find_path hf
  have e : (d.does o) = d.put o.offset o.data := by simp [Ent.does, hk]
  have := now_upd hA hd (fun x => (x.does o).2)
  rw [hp] at this
  simp only [St.does, hk, hf, e, this]
  simp

/-- Behind an operation upon one node: the store. -/
theorem nodeOp_store {w0 w2 w3 w4 w5 w6 : World} {own own' : Own} {s : Nat} {A : St} (hA : StOk A) {mb cb : Nat} {ov : Value} {nb : Int → Nat} (hr : StoreRep w0 own s A mb cb ov nb) {d d' : Ent} (hd : d ∈ A.l) {kv bv bv' : Value} {bs bs' : List (Option Nat)}
    (hdr : NodeRep w0 own A.l d (nb d.inf.path) kv bv bs) (a : Alike d d') (ho : EntOk d') (t2 : Turn w0 w2 s) (t3 : Turn w2 w3 (nb d.inf.path)) (op : NodeOp w3 w4 own own' d d' (nb d.inf.path) kv bv' bs')
    (t5 : Turn w4 w5 (nb d.inf.path)) (r5 : row w5 (nb d.inf.path) = some (nodeC 0 d'.inf kv bv', 92)) (t6 : Turn w5 w6 s) (r6 : row w6 s = some (storeC 0 0 A.most A.next mb ov cb, 101)) :
    Store w6 own' s (A.now d d') ∧ Steps w0 w6 own own' := by
  have z2 := t2.size
  have z3 := t3.size
  have z4 := op.keep.size
  have z5 := t5.size
  have z6 := t6.size
  let T : Nat → Prop := fun b => b = nb d.inf.path ∨ own b = some (Role.blocks d.inf.path) ∨ ∃ j, own b = some (Role.data d.inf.path j)
  have k1 : Keep w0 w6 (fun b => b = s ∨ T b) :=
    ((((t2.keep.mono (S' := fun b => b = s ∨ T b) (fun _ _ h => .inl h)).trans t3.keep (fun _ _ h => .inr (.inl h))).trans op.keep (fun _ _ h => .inr h)).trans t5.keep (fun _ _ h => .inr (.inl h))).trans t6.keep (fun _ _ h => .inl h)
  have k2 : Keep w0 w6 T := keep_drop k1 hr.srow r6
  have hns : nb d.inf.path ≠ s := fun e => by have := hdr.nown; rw [e, hr.sown] at this; cases this
  have hbs : ∀ b r, own' b = some r → (r = Role.blocks d'.inf.path ∨ ∃ j, r = Role.data d'.inf.path j) → b ≠ nb d.inf.path ∧ b ≠ s := fun b r h hr2 => by
    have h1 := op.old _ _ hdr.nown
    have h2 := op.old _ _ hr.sown
    refine ⟨fun e => ?_, fun e => ?_⟩
    · rw [e, h1] at h; cases h; rcases hr2 with h | ⟨j, h⟩ <;> cases h
    · rw [e, h2] at h; cases h; rcases hr2 with h | ⟨j, h⟩ <;> cases h
  have hn : NodeRep w6 own' A.l d' (nb d.inf.path) kv bv' bs' :=
    { nown := by rw [a.path]; exact op.old _ _ hdr.nown
      nrow := t6.keep.row r5 hns
      nkids := by
        rw [a.path]
        refine ownsRow_keep k2 hdr.nkids (fun g hg h => ?_)
        have := hdr.kown g hg
        rcases h with h | h | ⟨j, h⟩
        · rw [h, hdr.nown] at this; cases this
        · rw [h] at this; cases this
        · rw [h] at this; cases this
      kown := fun g hg => by rw [a.path]; exact op.old _ _ (hdr.kown g hg)
      bytes := by
        have b5 := op.bytes.keepB t5.keep (fun b hb h => by
          rcases hb with hb | ⟨j, hb⟩
          · exact (hbs b _ hb (.inl rfl)).1 h
          · exact (hbs b _ hb (.inr ⟨j, rfl⟩)).1 h)
        exact b5.keepB t6.keep (fun b hb h => by
          rcases hb with hb | ⟨j, hb⟩
          · exact (hbs b _ hb (.inl rfl)).2 h
          · exact (hbs b _ hb (.inr ⟨j, rfl⟩)).2 h) }
  refine ⟨⟨stOk_now hA hd a ho, mb, cb, ov, nb, now_store hA hr hd a k2 (fun b h => ?_) op.old (fun b h => by have := op.dom b h; omega) hn⟩, k2.mono (fun b _ h => ?_), fun b h => ?_⟩
  · rcases h with h | h | h
    · exact .inl h
    · exact .inr (.inl h)
    · exact .inr (.inr (.inl h))
  · rcases h with h | h | ⟨j, h⟩
    · rw [h, hdr.nown]; simp
    · rw [h]; simp
    · rw [h]; simp
  · rcases op.fresh b h with h | h
    · exact .inl h
    · exact .inr (by omega)

set_option maxHeartbeats 4000000 in
theorem do_put {w : World} {own : Own} {s : Nat} {A : St} (h : Store w own s A) {o : Ope} {dv : Value} (hk : o.kind = 6) (p0 : 0 ≤ o.path) (p1 : o.path < 18446744073709551616) (o0 : 0 ≤ o.offset) (o1 : o.offset < 18446744073709551616) (hd : DataAt w own o.data dv) :
    Calls Tryd.prog 20 #[.pointer (some ⟨s, 0, none⟩), .agg (opC o dv)] w (Does w own s (A.does o)) := by
  obtain ⟨hA, mb, cb, ov, nb, hr⟩ := h
  have h0 := hr.srow
  have hs := row_lt h0
  obtain ⟨W0, hW0⟩ : ∃ W0, W0 = w.alloc (.cells (opC o dv) 53) := ⟨_, rfl⟩
  have k0 : Keep w W0 (fun _ => False) := by rw [hW0]; exact Keep.alloc _ _ _
  have r0 : row W0 w.heap.size = some (opC o dv, 53) := by rw [hW0]; exact row_alloc_at _ _ _ _ rfl
  have hr0 := hr.keep k0 (fun _ _ h => h)
  have hsW := hr0.srow
  have b0 : (w.alloc (.cells (opC o dv) 53)).cell? ⟨w.heap.size, 0, none⟩ = some (.int .u8 6) := by rw [← hW0, ← hk]; exact cell_row r0
  have HW := Lib.hid (And.intro k0 (And.intro hd (And.intro hA (And.intro hr hr0))))
  have HR0 := Lib.hid r0
  clear hr h0 hA hd hr0 r0 k0
  go_enter_defers Tryd.func20, Tryd.ntmps20
  go_wp2_with fail
  rw [← hW0]
  refine (rlock_row hsW).mono ?_
  rintro e w1 ⟨rfl, r1, t1⟩
  have hne : w.heap.size ≠ s := by omega
  have rb : row w1 w.heap.size = some (opC o dv, 53) := t1.keep.row HR0.out hne
  have c8 : w1.cell? ⟨s, 8, none⟩ = some (.map (some mb)) := cell_row r1
  have b1 : w1.cell? ⟨w.heap.size, 1, none⟩ = some (.int .u64 o.path) := cell_row rb
  have hms : mb ≠ s := fun e => by have := HW.out.2.2.2.1.mown; rw [e, HW.out.2.2.2.1.sown] at this; cases this
  have mM := HW.out.2.2.2.2.mmap.keep t1.keep hms
  have hlk := fun k => (mM.keep (Keep.drewN w1 k (fun _ => False)) (fun h => h)).look false lawU Tryd.underlying93 (zeroPN _) (keyU p0 p1)
  have HT1 := Lib.hid t1
  have HR1 := Lib.hid r1
  have HRB := Lib.hid rb
  clear t1 r1 rb mM hW0 hsW b0
  cases hfd : find A.l o.path with
  | none =>
    have hF : nodesF A.l nb (.int .u64 o.path) = none := by simp [nodesF, hfd]
    simp only [hF] at hlk
    have HD := Lib.hid hfd
    clear hfd hF
    go_wp2_with fail
    go_quiet (fail)
    generalize hV : World.drewN w1 _ = W2
    have kV : Keep w1 W2 (fun _ => False) := by rw [← hV]; exact Keep.drewN _ _ _
    have tV : Turn w1 W2 s := ⟨kV.mono (fun _ _ h => h.elim), by rw [← hV]; rfl⟩
    have r2 := kV.row HR1.out (fun h => h)
    have t2 := HT1.out.trans tV
    clear hlk c8 b1 hV
    go_wp2_with fail
    refine leaves_cons (f := 37) (args := #[.pointer (some ⟨s, 0, none⟩)]) (by simp) (by simp [go_sem]) ?_
    refine (runlock_row .returning r2).mono ?_
    rintro e u' w3 ⟨rfl, rfl, h3, t3⟩
    refine ⟨_, results_tmp2 rfl _ _ _, ?_⟩
    have e : A.does o = ((0, 80), A) := by simp [St.does, hk, HD.out]
    have hk3 : Keep w w3 (fun _ => False) := HW.out.1.trans ((t2.trans t3).keep.back HW.out.2.2.2.2.srow h3 _) (fun _ _ h => h)
    rw [e]
    exact ⟨rfl, own, Store.keep hk3 ⟨HW.out.2.2.1, _, _, _, _, HW.out.2.2.2.1⟩ (fun _ _ h => h), Steps.of_keep own hk3⟩
  | some d =>
    obtain ⟨hd, hdp⟩ := find_path hfd
    have hF : nodesF A.l nb (.int .u64 o.path) = some (.pointer (some ⟨nb o.path, 0, none⟩)) := by simp [nodesF, hfd]
    simp only [hF] at hlk
    have HD := Lib.hid hfd
    clear hfd hF
    go_wp2_with fail
    go_quiet (fail)
    generalize hV : World.drewN w1 _ = W2
    have kV : Keep w1 W2 (fun _ => False) := by rw [← hV]; exact Keep.drewN _ _ _
    have tV : Turn w1 W2 s := ⟨kV.mono (fun _ _ h => h.elim), by rw [← hV]; rfl⟩
    have r2 := kV.row HR1.out (fun h => h)
    have rb2 := kV.row HRB.out (fun h => h)
    have t2 := HT1.out.trans tV
    clear hlk c8 b1 hV
    obtain ⟨kv, bv, bs, hdr⟩ := HW.out.2.2.2.2.node d hd
    rw [hdp] at hdr
    have hns : nb o.path ≠ s := fun e => by have := hdr.nown; rw [e, HW.out.2.2.2.1.sown] at this; cases this
    have rn2 := t2.keep.row hdr.nrow hns
    rw [nodeC_0] at rn2
    have HDR := Lib.hid hdr
    have HRB2 := Lib.hid rb2
    have HR2 := Lib.hid r2
    have HT2 := Lib.hid t2
    clear rb2 r2 t2 tV kV hdr
    go_wp2_with fail
    refine (lock_row rn2).mono ?_
    rintro e w3 ⟨rfl, rn3, t3⟩
    have hnb2 : nb o.path < w.heap.size := HW.out.2.2.2.1.dom _ (by rw [HDR.out.nown]; simp)
    have hbn : w.heap.size ≠ nb o.path := by omega
    have rb3 := t3.keep.row HRB2.out hbn
    have b0 : w3.cell? ⟨w.heap.size, 0, none⟩ = some (.int .u8 6) := by rw [← hk]; exact cell_row rb3
    have b17 : w3.cell? ⟨w.heap.size, 17, none⟩ = some (.int .u64 o.offset) := cell_row rb3
    have b18 : w3.cell? ⟨w.heap.size, 18, none⟩ = some dv := cell_row rb3
    have hb3 : w.heap.size < w3.heap.size := row_lt rb3
    have HRB3 := Lib.hid rb3
    have HRN3 := Lib.hid rn3
    have HT3 := Lib.hid t3
    clear rb3 rn3 t3 rn2
    go_wp2_with fail
    have hk23 : Keep W0 w3 (fun b => b = s ∨ b = nb o.path) := (HT2.out.keep.mono (fun _ _ h => .inl h)).trans (HT3.out.keep.mono (S' := fun b => b = s ∨ b = nb o.path) (fun _ _ h => .inr h)) (fun _ _ h => h)
    have hby := HDR.out.bytes.keepB hk23 (fun b hb h => by
      rcases h with rfl | rfl
      · rw [HW.out.2.2.2.1.sown] at hb; rcases hb with h | ⟨j, h⟩ <;> cases h
      · rw [HDR.out.nown] at hb; rcases hb with h | ⟨j, h⟩ <;> cases h)
    have hdom3 : ∀ b, own b ≠ none → b < w3.heap.size := fun b h => Nat.lt_of_lt_of_le (HW.out.2.2.2.2.dom b h) hk23.size
    have hda3 : DataAt w3 own o.data dv := (HW.out.2.1.keep HW.out.1 (fun _ h => h.elim)).keep hk23 (fun b h => by
      rcases h with rfl | rfl
      · rw [HW.out.2.2.2.1.sown]; simp
      · rw [HDR.out.nown]; simp)
    have hlb : ∀ v ∈ o.data, 0 ≤ v ∧ v < 256 := by obtain ⟨_, _, _, h, _⟩ := hda3; exact h
    have hox : own w.heap.size = none := by
      cases h : own w.heap.size with
      | none => rfl
      | some r => exact absurd (HW.out.2.2.2.1.dom _ (by rw [h]; simp)) (Nat.lt_irrefl _)
    refine (put_node HRN3.out HDR.out.nown hby hdom3 o0 o1 hda3).mono ?_
    rintro e w4 ⟨rfl, own', bv', bs', op⟩
    have pd := put_does HW.out.2.2.1 hk HD.out
    have al := put_alike d o.offset o.data
    have ho := put_entOk (HW.out.2.2.1.ok d hd) o0 hlb
    have pe := put_err (e := d) (off := o.offset) (l := o.data)
    generalize d.put o.offset o.data = pr at pd op al ho pe
    obtain ⟨er, d'⟩ := pr
    simp only at pd op al ho pe
    have rb4 := op.keep.row HRB3.out (fun h => by
      rcases h with h | h | ⟨j, h⟩
      · exact hbn h
      · rw [hox] at h; cases h
      · rw [hox] at h; cases h)
    have b1 : w4.cell? ⟨w.heap.size, 1, none⟩ = some (.int .u64 o.path) := cell_row rb4
    have hs4 := op.keep.row (HT3.out.keep.row HR2.out (Ne.symm hns)) (fun h => by
      rcases h with h | h | ⟨j, h⟩
      · exact hns h.symm
      · rw [HW.out.2.2.2.1.sown] at h; cases h
      · rw [HW.out.2.2.2.1.sown] at h; cases h)
    have HOP := Lib.hid op
    have HPD := Lib.hid pd
    have HAL := Lib.hid al
    have HHO := Lib.hid ho
    have HPE := Lib.hid pe
    have HS4 := Lib.hid hs4
    have HB4 := Lib.hid rb4
    clear op pd al ho pe hs4 rb4 hby hdom3 hda3 hk23 b17 b18 b0
    by_cases her : er = 0
    · subst her
      go_wp2_with fail
      refine leaves_cons (f := 42) (args := #[.pointer (some ⟨nb o.path, 0, none⟩)]) (by simp) (by simp [go_sem]) ?_
      refine (unlock_row .returning HOP.out.nrow).mono ?_
      rintro e u' w5 ⟨rfl, rfl, h5, t5⟩
      have hs5 := t5.keep.row HS4.out (Ne.symm hns)
      refine leaves_cons (f := 37) (args := #[.pointer (some ⟨s, 0, none⟩)]) (fun h => by cases h) (by simp [go_sem]) ?_
      refine (runlock_row .returning hs5).mono ?_
      rintro e u' w6 ⟨rfl, rfl, h6, t6⟩
      refine ⟨_, results_tmp2 rfl _ _ _, ?_⟩
      have hfin := nodeOp_store HW.out.2.2.1 HW.out.2.2.2.2 hd (by rw [hdp]; exact HDR.out) HAL.out HHO.out HT2.out (by rw [hdp]; exact HT3.out) (by rw [hdp]; exact HOP.out) (by rw [hdp]; exact t5) (by rw [hdp]; exact h5) t6 h6
      rw [HPD.out]
      exact ⟨rfl, own', hfin.1, (Steps.of_keep own HW.out.1).trans hfin.2⟩
    · have e1 : (er != 0) = true := by simpa using her
      go_wp2_with fail
      refine leaves_cons (f := 42) (args := #[.pointer (some ⟨nb o.path, 0, none⟩)]) (by simp) (by simp [go_sem]) ?_
      refine (unlock_row .returning HOP.out.nrow).mono ?_
      rintro e u' w5 ⟨rfl, rfl, h5, t5⟩
      have hs5 := t5.keep.row HS4.out (Ne.symm hns)
      refine leaves_cons (f := 37) (args := #[.pointer (some ⟨s, 0, none⟩)]) (fun h => by cases h) (by simp [go_sem]) ?_
      refine (runlock_row .returning hs5).mono ?_
      rintro e u' w6 ⟨rfl, rfl, h6, t6⟩
      refine ⟨_, results_tmp2 rfl _ _ _, ?_⟩
      have hfin := nodeOp_store HW.out.2.2.1 HW.out.2.2.2.2 hd (by rw [hdp]; exact HDR.out) HAL.out HHO.out HT2.out (by rw [hdp]; exact HT3.out) (by rw [hdp]; exact HOP.out) (by rw [hdp]; exact t5) (by rw [hdp]; exact h5) t6 h6
      rw [HPE.out her, now_self HW.out.2.2.1 hd] at hfin
      rw [HPD.out, if_neg her]
      exact ⟨rfl, own', hfin.1, (Steps.of_keep own HW.out.1).trans hfin.2⟩
end Go.Proofs.YtfbcdhcgmncklaaDoor
