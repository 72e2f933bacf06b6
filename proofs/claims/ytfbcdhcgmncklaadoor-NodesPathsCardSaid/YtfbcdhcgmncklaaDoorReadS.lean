/- (*Store).Read. -/
import Derived.Test.YtfbcdhcgmncklaaDoorDo
import Derived.Test.YtfbcdhcgmncklaaDoorRead
namespace Go.Proofs.YtfbcdhcgmncklaaDoor
open Go Go.RowKit Go.Nd Go.Maps Go.MuLone Go.RwLone
set_option maxRecDepth 100000

/-- What a store reads of the node of a path. -/
def readOf (l : List Ent) (p off n : Int) : List Int := ((find l p).map (·.read off n)).getD []

theorem read_node {w : World} {own : Own} {nb : Nat} {a : Int} {e : Ent} {kv bv : Value} {bs : List (Option Nat)} {T : TypeId} (hn : row w nb = some (nodeC a e.inf kv bv, T)) (hb : BytesRep w own e bv bs) (he : EntOk e) {off n : Int} (o0 : 0 ≤ off) (n1 : n < 9223372036854775808) :
    Calls Tryd.prog 47 #[.pointer (some ⟨nb, 0, none⟩), .int .u64 off, .int .i64 n] w fun r w' => ∃ dv, r = .returned dv ∧ Keep w w' (fun _ => False) ∧ ListAt w w' dv (e.read off n) := by
  by_cases h : n ≤ 0 ∨ e.inf.len ≤ off
  · refine (read_nil hn off n h).mono ?_
    rintro r w' ⟨rfl, rfl⟩
    exact ⟨_, rfl, Keep.refl _ _, .inl ⟨rfl, by unfold Ent.read; rw [if_pos h]⟩⟩
  · obtain ⟨o, rfl⟩ : ∃ o : Nat, off = o := ⟨off.toNat, by omega⟩
    exact read_some (m := (min n (e.inf.len - o)).toNat) hn hb he (by omega) (by omega) n1 (by omega)

set_option maxHeartbeats 4000000 in
theorem store_read {w : World} {own : Own} {s : Nat} {A : St} (h : Store w own s A) {p off n : Int} (p0 : 0 ≤ p) (p1 : p < 18446744073709551616) (o0 : 0 ≤ off) (n1 : n < 9223372036854775808) :
    Calls Tryd.prog 23 #[.pointer (some ⟨s, 0, none⟩), .int .u64 p, .int .u64 off, .int .i64 n] w fun r w' => ∃ dv, r = .returned dv ∧ Keep w w' (fun _ => False) ∧ ListAt w w' dv (readOf A.l p off n) := by
  obtain ⟨hA, mb, cb, ov, nb, hr⟩ := h
  have h0 := hr.srow
  have hs := row_lt h0
  have HW := Lib.hid (And.intro hA hr)
  have H0 := Lib.hid h0
  have hsW := h0
  clear hr h0 hA
  go_enter_defers Tryd.func23, Tryd.ntmps23
  go_wp2_with fail
  refine (rlock_row hsW).mono ?_
  rintro e w1 ⟨rfl, r1, t1⟩
  have c8 : w1.cell? ⟨s, 8, none⟩ = some (.map (some mb)) := cell_row r1
  have hms : mb ≠ s := fun e => by have := HW.out.2.mown; rw [e, HW.out.2.sown] at this; cases this
  have mM := HW.out.2.mmap.keep t1.keep hms
  have hlk := mM.look false lawU Tryd.underlying93 (zeroPN _) (keyU p0 p1)
  have HT1 := Lib.hid t1
  have HR1 := Lib.hid r1
  clear t1 r1 mM hsW
  cases hfd : find A.l p with
  | none =>
    have hF : nodesF A.l nb (.int .u64 p) = none := by simp [nodesF, hfd]
    simp only [hF] at hlk
    have HD := Lib.hid hfd
    clear hfd hF
    go_wp2_with fail
    refine leaves_cons (f := 37) (args := #[.pointer (some ⟨s, 0, none⟩)]) (by simp) (by simp [go_sem]) ?_
    refine (runlock_row .returning HR1.out).mono ?_
    rintro e u' w3 ⟨rfl, rfl, h3, t3⟩
    refine ⟨_, results_tmp rfl _ _ _, ?_⟩
    exact ⟨_, rfl, (HT1.out.trans t3).keep.back H0.out h3 _, .inl ⟨rfl, by simp [readOf, HD.out]⟩⟩
  | some d =>
    obtain ⟨hd, hdp⟩ := find_path hfd
    have hF : nodesF A.l nb (.int .u64 p) = some (.pointer (some ⟨nb p, 0, none⟩)) := by simp [nodesF, hfd]
    simp only [hF] at hlk
    have HD := Lib.hid hfd
    clear hfd hF
    obtain ⟨kv, bv, bs, hdr⟩ := HW.out.2.node d hd
    rw [hdp] at hdr
    have hns : nb p ≠ s := fun e => by have := hdr.nown; rw [e, HW.out.2.sown] at this; cases this
    have rn2 := HT1.out.keep.row hdr.nrow hns
    rw [nodeC_0] at rn2
    have HDR := Lib.hid hdr
    have HRN := Lib.hid rn2
    clear hdr
    go_wp2_with fail
    refine (lock_row rn2).mono ?_
    rintro e w3 ⟨rfl, rn3, t3⟩
    have HRN3 := Lib.hid rn3
    have HT3 := Lib.hid t3
    clear rn3 t3 rn2
    go_wp2_with fail
    have hk13 : Keep w w3 (fun b => b = s ∨ b = nb p) := (HT1.out.keep.mono (fun _ _ h => .inl h)).trans (HT3.out.keep.mono (S' := fun b => b = s ∨ b = nb p) (fun _ _ h => .inr h)) (fun _ _ h => h)
    have hby := HDR.out.bytes.keepB hk13 (fun b hb h => by
      rcases h with rfl | rfl
      · rw [HW.out.2.sown] at hb; rcases hb with h | ⟨j, h⟩ <;> cases h
      · rw [HDR.out.nown] at hb; rcases hb with h | ⟨j, h⟩ <;> cases h)
    refine (read_node HRN3.out hby (HW.out.1.ok d hd) o0 n1).mono ?_
    rintro e w4 ⟨dv, rfl, k4, hl⟩
    have hs4 := k4.row (HT3.out.keep.row HR1.out (Ne.symm hns)) (fun h => h)
    have hn4 := k4.row HRN3.out (fun h => h)
    have HK4 := Lib.hid k4
    have HL := Lib.hid hl
    have HS4 := Lib.hid hs4
    have HN4 := Lib.hid hn4
    clear k4 hl hs4 hn4 hby hk13
    go_wp2_with fail
    refine leaves_cons (f := 42) (args := #[.pointer (some ⟨nb p, 0, none⟩)]) (by simp) (by simp [go_sem]) ?_
    refine (unlock_row .returning HN4.out).mono ?_
    rintro e u' w5 ⟨rfl, rfl, h5, t5⟩
    have hs5 := t5.keep.row HS4.out (Ne.symm hns)
    refine leaves_cons (f := 37) (args := #[.pointer (some ⟨s, 0, none⟩)]) (fun h => by cases h) (by simp [go_sem]) ?_
    refine (runlock_row .returning hs5).mono ?_
    rintro e u' w6 ⟨rfl, rfl, h6, t6⟩
    refine ⟨_, results_tmp rfl _ _ _, ?_⟩
    have hsl := row_lt H0.out
    have hnl := row_lt HDR.out.nrow
    have z3 : w.heap.size ≤ w3.heap.size := Nat.le_trans HT1.out.keep.size HT3.out.keep.size
    have ka : Keep w w6 (fun b => b = s ∨ b = nb p) :=
      (((((HT1.out.keep.mono (S' := fun b => b = s ∨ b = nb p) (fun _ _ h => .inl h)).trans HT3.out.keep (fun _ _ h => .inr h)).trans HK4.out (fun _ _ h => h.elim)).trans t5.keep (fun _ _ h => .inr h)).trans t6.keep (fun _ _ h => .inl h))
    have kb : Keep w w6 (· = nb p) := keep_drop ka H0.out h6
    have kc : Keep w w6 (fun _ => False) := kb.back (nodeC_0 _ _ _ ▸ HDR.out.nrow) (t6.keep.row h5 hns) _
    have hrd : readOf A.l p off n = d.read off n := by simp [readOf, HD.out]
    refine ⟨dv, rfl, kc, ?_⟩
    rw [hrd]
    rcases HL.out with h | ⟨g, h1, h2, h3⟩
    · exact .inl h
    · refine .inr ⟨g, h1, Nat.le_trans z3 h2, t6.keep.row (t5.keep.row h3 (fun e => ?_)) (fun e => ?_)⟩
      · have e' : g = nb p := e
        omega
      · have e' : g = s := e
        omega
end Go.Proofs.YtfbcdhcgmncklaaDoor
