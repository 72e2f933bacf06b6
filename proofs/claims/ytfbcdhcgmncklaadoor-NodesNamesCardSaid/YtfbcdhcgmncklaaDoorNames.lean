/- The law NodesNames, walked. -/
import Derived.Test.YtfbcdhcgmncklaaDoorWorks
namespace Go.Proofs.YtfbcdhcgmncklaaDoor
open Go Go.RowKit Go.Nd Go.Maps Go.MuLone Go.RwLone
set_option maxRecDepth 100000

set_option maxHeartbeats 8000000 in
theorem names_any (w : World) (B : Nat) (hB : GB B w) :
    Calls Tryd.prog 3 #[] w fun e w' => e = .returned (.bool true) ∧ Keep w w' (fun _ => False) := by
  have HB := Lib.hid hB
  clear hB
  go_enter Tryd.func3, Tryd.ntmps3
  go_wp2_with fail
  obtain ⟨W0, hW0⟩ : ∃ W0, W0 = ((w.alloc (.cells #[.int .u8 1, .int .u8 2, .int .u8 3, .int .u8 4, .int .u8 5, .int .u8 6, .int .u8 7] 22)).alloc (.cells #[.int .u8 1, .int .u8 2, .int .u8 4, .int .u8 8, .int .u8 16, .int .u8 32, .int .u8 64] 24)).alloc
    (.cells #[.int .i64 80, .int .i64 81, .int .i64 82, .int .i64 83, .int .i64 84, .int .i64 85, .int .i64 86, .int .i64 87] 26) := ⟨_, rfl⟩
  have k0 : Keep w W0 (fun _ => False) := by rw [hW0]; exact ((Keep.alloc _ _ _).thenAlloc _).thenAlloc _
  have q1 : row W0 w.heap.size = some (#[.int .u8 1, .int .u8 2, .int .u8 3, .int .u8 4, .int .u8 5, .int .u8 6, .int .u8 7], 22) := by
    rw [hW0, row_alloc_past _ _ _ (by simp; omega), row_alloc_past _ _ _ (by simp)]; exact row_alloc_at _ _ _ _ rfl
  have q2 : row W0 (w.heap.size + 1) = some (#[.int .u8 1, .int .u8 2, .int .u8 4, .int .u8 8, .int .u8 16, .int .u8 32, .int .u8 64], 24) := by
    rw [hW0, row_alloc_past _ _ _ (by simp)]; exact row_alloc_at _ _ _ _ (by simp)
  have q3 : row W0 (w.heap.size + 2) = some (#[.int .i64 80, .int .i64 81, .int .i64 82, .int .i64 83, .int .i64 84, .int .i64 85, .int .i64 86, .int .i64 87], 26) := by
    rw [hW0]; exact row_alloc_at _ _ _ _ (by simp)
  rw [← hW0]
  have H0 := Lib.hid (And.intro k0 (And.intro q1 (And.intro q2 q3)))
  clear hW0 k0 q1 q2 q3
  go_loopw [4] (fun i wr => ∃ k : Nat, k ≤ 7 ∧ i = .int .i64 k ∧ Keep W0 wr (fun _ => False)) (fun i _ => 7 - (intOf i).toNat)
  case atStart => exact ⟨0, by omega, rfl, Keep.refl _ _⟩
  case round =>
    obtain ⟨k, hk, rfl, hkp⟩ := hrel
    have r1 := hkp.row H0.out.2.1 (fun h => h)
    have r2 := hkp.row H0.out.2.2.1 (fun h => h)
    have HK := Lib.hid hkp
    clear hkp
    rcases (show k = 0 ∨ k = 1 ∨ k = 2 ∨ k = 3 ∨ k = 4 ∨ k = 5 ∨ k = 6 ∨ k = 7 by omega) with rfl | rfl | rfl | rfl | rfl | rfl | rfl | rfl
    · have c1 : wr.cell? ⟨w.heap.size, 0, none⟩ = some (.int .u8 1) := cell_row r1
      have c2 : wr.cell? ⟨w.heap.size + 1, 0, none⟩ = some (.int .u8 1) := cell_row r2
      clear r1 r2
      go_wp2_with fail
      go_quiet (fail)
      go_wp2_with fail
      go_roundw
      case rel => exact ⟨1, by omega, rfl, HK.out.trans (Keep.drewN _ _ _) (fun _ _ h => h)⟩
      case measure => simp [intOf]
    · have c1 : wr.cell? ⟨w.heap.size, 1, none⟩ = some (.int .u8 2) := cell_row r1
      have c2 : wr.cell? ⟨w.heap.size + 1, 1, none⟩ = some (.int .u8 2) := cell_row r2
      clear r1 r2
      go_wp2_with fail
      go_quiet (fail)
      go_wp2_with fail
      go_roundw
      case rel => exact ⟨2, by omega, rfl, HK.out.trans (Keep.drewN _ _ _) (fun _ _ h => h)⟩
      case measure => simp [intOf]
    · have c1 : wr.cell? ⟨w.heap.size, 2, none⟩ = some (.int .u8 3) := cell_row r1
      have c2 : wr.cell? ⟨w.heap.size + 1, 2, none⟩ = some (.int .u8 4) := cell_row r2
      clear r1 r2
      go_wp2_with fail
      go_quiet (fail)
      go_wp2_with fail
      go_roundw
      case rel => exact ⟨3, by omega, rfl, HK.out.trans (Keep.drewN _ _ _) (fun _ _ h => h)⟩
      case measure => simp [intOf]
    · have c1 : wr.cell? ⟨w.heap.size, 3, none⟩ = some (.int .u8 4) := cell_row r1
      have c2 : wr.cell? ⟨w.heap.size + 1, 3, none⟩ = some (.int .u8 8) := cell_row r2
      clear r1 r2
      go_wp2_with fail
      go_quiet (fail)
      go_wp2_with fail
      go_roundw
      case rel => exact ⟨4, by omega, rfl, HK.out.trans (Keep.drewN _ _ _) (fun _ _ h => h)⟩
      case measure => simp [intOf]
    · have c1 : wr.cell? ⟨w.heap.size, 4, none⟩ = some (.int .u8 5) := cell_row r1
      have c2 : wr.cell? ⟨w.heap.size + 1, 4, none⟩ = some (.int .u8 16) := cell_row r2
      clear r1 r2
      go_wp2_with fail
      go_quiet (fail)
      go_wp2_with fail
      go_roundw
      case rel => exact ⟨5, by omega, rfl, HK.out.trans (Keep.drewN _ _ _) (fun _ _ h => h)⟩
      case measure => simp [intOf]
    · have c1 : wr.cell? ⟨w.heap.size, 5, none⟩ = some (.int .u8 6) := cell_row r1
      have c2 : wr.cell? ⟨w.heap.size + 1, 5, none⟩ = some (.int .u8 32) := cell_row r2
      clear r1 r2
      go_wp2_with fail
      go_quiet (fail)
      go_wp2_with fail
      go_roundw
      case rel => exact ⟨6, by omega, rfl, HK.out.trans (Keep.drewN _ _ _) (fun _ _ h => h)⟩
      case measure => simp [intOf]
    · have c1 : wr.cell? ⟨w.heap.size, 6, none⟩ = some (.int .u8 7) := cell_row r1
      have c2 : wr.cell? ⟨w.heap.size + 1, 6, none⟩ = some (.int .u8 64) := cell_row r2
      clear r1 r2
      go_wp2_with fail
      go_quiet (fail)
      go_wp2_with fail
      go_roundw
      case rel => exact ⟨7, by omega, rfl, HK.out.trans (Keep.drewN _ _ _) (fun _ _ h => h)⟩
      case measure => simp [intOf]
    · clear r1 r2
      go_wp2_with fail
      have H1 := Lib.hid (And.intro HK.out H0.out)
      clear HK H0
      go_loop [5] (fun i => ∃ k : Nat, k ≤ 8 ∧ i = .int .i64 k) (fun i => 8 - (intOf i).toNat)
      case atStart => exact ⟨0, by omega, rfl⟩
      case round =>
        obtain ⟨k, hk, rfl⟩ := hrel
        have r3 := H1.out.1.row H1.out.2.2.2.2 (fun h => h)
        rcases (show k = 0 ∨ k = 1 ∨ k = 2 ∨ k = 3 ∨ k = 4 ∨ k = 5 ∨ k = 6 ∨ k = 7 ∨ k = 8 by omega) with rfl | rfl | rfl | rfl | rfl | rfl | rfl | rfl | rfl
        · have c3 : wr.cell? ⟨w.heap.size + 1 + 1, 0, none⟩ = some (.int .i64 80) := cell_row r3
          clear r3
          go_wp2_with fail
          go_round
          case rel => exact ⟨1, by omega, rfl⟩
          case measure => simp [intOf]
        · have c3 : wr.cell? ⟨w.heap.size + 1 + 1, 1, none⟩ = some (.int .i64 81) := cell_row r3
          clear r3
          go_wp2_with fail
          go_round
          case rel => exact ⟨2, by omega, rfl⟩
          case measure => simp [intOf]
        · have c3 : wr.cell? ⟨w.heap.size + 1 + 1, 2, none⟩ = some (.int .i64 82) := cell_row r3
          clear r3
          go_wp2_with fail
          go_round
          case rel => exact ⟨3, by omega, rfl⟩
          case measure => simp [intOf]
        · have c3 : wr.cell? ⟨w.heap.size + 1 + 1, 3, none⟩ = some (.int .i64 83) := cell_row r3
          clear r3
          go_wp2_with fail
          go_round
          case rel => exact ⟨4, by omega, rfl⟩
          case measure => simp [intOf]
        · have c3 : wr.cell? ⟨w.heap.size + 1 + 1, 4, none⟩ = some (.int .i64 84) := cell_row r3
          clear r3
          go_wp2_with fail
          go_round
          case rel => exact ⟨5, by omega, rfl⟩
          case measure => simp [intOf]
        · have c3 : wr.cell? ⟨w.heap.size + 1 + 1, 5, none⟩ = some (.int .i64 85) := cell_row r3
          clear r3
          go_wp2_with fail
          go_round
          case rel => exact ⟨6, by omega, rfl⟩
          case measure => simp [intOf]
        · have c3 : wr.cell? ⟨w.heap.size + 1 + 1, 6, none⟩ = some (.int .i64 86) := cell_row r3
          clear r3
          go_wp2_with fail
          go_round
          case rel => exact ⟨7, by omega, rfl⟩
          case measure => simp [intOf]
        · have c3 : wr.cell? ⟨w.heap.size + 1 + 1, 7, none⟩ = some (.int .i64 87) := cell_row r3
          clear r3
          go_wp2_with fail
          go_round
          case rel => exact ⟨8, by omega, rfl⟩
          case measure => simp [intOf]
        · clear r3
          go_wp2_with fail
          have kw : Keep w wr (fun _ => False) := H1.out.2.1.trans H1.out.1 (fun _ _ h => h)
          have KW := Lib.hid kw
          have hb := HB.out.keep kw (fun _ h => h.elim)
          refine (works_any wr B hb).mono ?_
          rintro e w2 ⟨rfl, k2⟩
          have HE := Lib.hid (KW.out.trans k2 (fun _ _ h => h))
          clear k2 kw hb
          go_wp2_with fail
          go_ret
          exact ⟨rfl, HE.out⟩
end Go.Proofs.YtfbcdhcgmncklaaDoor
