/- (*node).set (printed by wip/gen_set.py). -/
import Derived.Test.YtfbcdhcgmncklaaDoorCutS
import Derived.Deep.DeepCutAuto
namespace Go.Proofs.YtfbcdhcgmncklaaDoor
open Go Go.RowKit Go.Nd Go.Maps Go.MuLone Go.RwLone
set_option maxRecDepth 100000

/-- The tests of set. -/
def sB (m k : Int) : Bool := bits .and .u8 m k != 0
def sS0 (m : Int) : Bool := bits .andNot .u8 m 127 != 0
def sS1 (m : Int) (g : Inf) : Bool := sB m 1 && !modeOk g.mode
def sS2 (m : Int) (g : Inf) : Bool := sB m 2 && !userOk g.uid
def sS3 (m : Int) (g : Inf) : Bool := sB m 4 && !userOk g.gid
def sS4 (m : Int) (g : Inf) : Bool := sB m 8 && !userOk g.muid
def sS5 (m : Int) (g f : Inf) : Bool := sB m 1 && (isDir g.mode != isDir f.mode)
/-- What is known of the node behind each step. -/
def sF1 (m : Int) (g f : Inf) : Inf := if sB m 1 then { f with mode := g.mode } else f
def sF2 (m : Int) (g f : Inf) : Inf := if sB m 2 then { f with uid := g.uid } else f
def sF3 (m : Int) (g f : Inf) : Inf := if sB m 4 then { f with gid := g.gid } else f
def sF4 (m : Int) (g f : Inf) : Inf := if sB m 8 then { f with muid := g.muid } else f
def sF5 (m : Int) (g f : Inf) : Inf := if sB m 16 then { f with atime := g.atime } else f
def sF6 (m : Int) (g f : Inf) : Inf := if sB m 32 then { f with mtime := g.mtime } else f
def sF7 (m : Int) (f : Inf) : Inf := if sB m 64 then { f with vers := (f.vers + 1) % 4294967296 } else f
def sF (m : Int) (g f : Inf) : Inf := sF7 m (sF6 m g (sF5 m g (sF4 m g (sF3 m g (sF2 m g (sF1 m g f))))))

theorem sF1_eq (m : Int) (g f : Inf) : sF1 m g f = { f with mode := if sB m 1 = true then g.mode else f.mode } := by unfold sF1; cases sB m 1 <;> rfl
theorem sF2_eq (m : Int) (g f : Inf) : sF2 m g f = { f with uid := if sB m 2 = true then g.uid else f.uid } := by unfold sF2; cases sB m 2 <;> rfl
theorem sF3_eq (m : Int) (g f : Inf) : sF3 m g f = { f with gid := if sB m 4 = true then g.gid else f.gid } := by unfold sF3; cases sB m 4 <;> rfl
theorem sF4_eq (m : Int) (g f : Inf) : sF4 m g f = { f with muid := if sB m 8 = true then g.muid else f.muid } := by unfold sF4; cases sB m 8 <;> rfl
theorem sF5_eq (m : Int) (g f : Inf) : sF5 m g f = { f with atime := if sB m 16 = true then g.atime else f.atime } := by unfold sF5; cases sB m 16 <;> rfl
theorem sF6_eq (m : Int) (g f : Inf) : sF6 m g f = { f with mtime := if sB m 32 = true then g.mtime else f.mtime } := by unfold sF6; cases sB m 32 <;> rfl
theorem sF7_eq (m : Int) (f : Inf) : sF7 m f = { f with vers := if sB m 64 = true then (f.vers + 1) % 4294967296 else f.vers } := by unfold sF7; cases sB m 64 <;> rfl
theorem set_refuse1 {e : Ent} {m : Int} {g : Inf} (h : sS0 m = true ∨ sS1 m g = true ∨ sS2 m g = true ∨ sS3 m g = true ∨ sS4 m g = true) : e.set m g = (1, e) := by
  unfold Ent.set
  rw [if_pos]
  simp only [sS0, sS1, sS2, sS3, sS4, sB, Bool.and_eq_true] at h
  exact h
theorem set_refuse2 {e : Ent} {m : Int} {g : Inf} (h0 : sS0 m = false) (h1 : sS1 m g = false) (h2 : sS2 m g = false) (h3 : sS3 m g = false) (h4 : sS4 m g = false) (h5 : sS5 m g e.inf = true) : e.set m g = (81, e) := by
  have hn : ¬ (sS0 m = true ∨ sS1 m g = true ∨ sS2 m g = true ∨ sS3 m g = true ∨ sS4 m g = true) := by rw [h0, h1, h2, h3, h4]; simp
  simp only [sS0, sS1, sS2, sS3, sS4, sB, Bool.and_eq_true] at hn
  unfold Ent.set
  rw [if_neg hn, if_pos]
  simp only [sS5, sB, Bool.and_eq_true, bne_iff_ne] at h5
  exact ⟨by simpa using h5.1, h5.2⟩
theorem set_done {e : Ent} {m : Int} {g : Inf} (h0 : sS0 m = false) (h1 : sS1 m g = false) (h2 : sS2 m g = false) (h3 : sS3 m g = false) (h4 : sS4 m g = false) (h5 : sS5 m g e.inf = false) : e.set m g = (0, { e with inf := sF m g e.inf }) := by
  have hn : ¬ (sS0 m = true ∨ sS1 m g = true ∨ sS2 m g = true ∨ sS3 m g = true ∨ sS4 m g = true) := by rw [h0, h1, h2, h3, h4]; simp
  simp only [sS0, sS1, sS2, sS3, sS4, sB, Bool.and_eq_true] at hn
  have hn2 : ¬ (sS5 m g e.inf = true) := by rw [h5]; simp
  simp only [sS5, sB, Bool.and_eq_true, bne_iff_ne] at hn2
  unfold Ent.set
  rw [if_neg hn, if_neg (fun h => hn2 ⟨by simpa using h.1, h.2⟩)]
  rw [sF, sF1_eq, sF2_eq, sF3_eq, sF4_eq, sF5_eq, sF6_eq, sF7_eq]
  rfl

set_option maxHeartbeats 8000000 in
theorem set_w0 {w : World} {nb : Nat} {f : Inf} {kv bv : Value} (hn : row w nb = some (nodeC 1 f kv bv, 92)) {B : Nat} (hB : GB B w) {m : Int} {g : Inf} (hg : InfOk g) (h0 : sS0 m = true) :
    Calls Tryd.prog 43 #[.pointer (some ⟨nb, 0, none⟩), .int .u8 m, .agg g.cells.toArray] w fun e w' => e = .returned (.int .i64 1) ∧ row w' nb = some (nodeC 1 f kv bv, 92) ∧ Keep w w' (· = nb) := by
  obtain ⟨W0, hW0⟩ : ∃ W0, W0 = w.alloc (.cells g.cells.toArray 41) := ⟨_, rfl⟩
  have k0 : Keep w W0 (fun _ => False) := by rw [hW0]; exact Keep.alloc _ _ _
  have r0 : row W0 w.heap.size = some (g.cells.toArray, 41) := by rw [hW0]; exact row_alloc_at _ _ _ _ rfl
  have rn := k0.row hn (fun h => h)
  have hB0 := hB.keep k0 (fun _ h => h.elim)
  have hnl := row_lt hn
  have hne : w.heap.size ≠ nb := by omega
  have HW := Lib.hid (And.intro k0 (And.intro r0 (And.intro rn hB0)))
  have su := hg.uid
  have sg := hg.gid
  have sm := hg.muid
  have H0 := Lib.hid (Keep.refl W0 (fun _ => False))
  clear k0 r0 rn hB0 hB hn
  have hs0 : (bits .andNot .u8 m 127 != 0) = true := h0
  clear h0
  go_enter Tryd.func43, Tryd.ntmps43
  go_wp2_with fail
  go_ret
  rw [← hW0]
  exact ⟨rfl, HW.out.2.2.1, HW.out.1.mono (fun _ _ h => h.elim)⟩

set_option maxHeartbeats 8000000 in
theorem set_w1 {w : World} {nb : Nat} {f : Inf} {kv bv : Value} (hn : row w nb = some (nodeC 1 f kv bv, 92)) {B : Nat} (hB : GB B w) {m : Int} {g : Inf} (hg : InfOk g) (h0 : sS0 m = false) (h1 : sS1 m g = true) :
    Calls Tryd.prog 43 #[.pointer (some ⟨nb, 0, none⟩), .int .u8 m, .agg g.cells.toArray] w fun e w' => e = .returned (.int .i64 1) ∧ row w' nb = some (nodeC 1 f kv bv, 92) ∧ Keep w w' (· = nb) := by
  obtain ⟨W0, hW0⟩ : ∃ W0, W0 = w.alloc (.cells g.cells.toArray 41) := ⟨_, rfl⟩
  have k0 : Keep w W0 (fun _ => False) := by rw [hW0]; exact Keep.alloc _ _ _
  have r0 : row W0 w.heap.size = some (g.cells.toArray, 41) := by rw [hW0]; exact row_alloc_at _ _ _ _ rfl
  have rn := k0.row hn (fun h => h)
  have hB0 := hB.keep k0 (fun _ h => h.elim)
  have hnl := row_lt hn
  have hne : w.heap.size ≠ nb := by omega
  have HW := Lib.hid (And.intro k0 (And.intro r0 (And.intro rn hB0)))
  have su := hg.uid
  have sg := hg.gid
  have sm := hg.muid
  have H0 := Lib.hid (Keep.refl W0 (fun _ => False))
  clear k0 r0 rn hB0 hB hn
  have HS1 := Lib.hid h1
  clear h1
  have hs0 : (bits .andNot .u8 m 127 != 0) = false := h0
  clear h0
  go_enter Tryd.func43, Tryd.ntmps43
  go_upto_region 2 with fail
  rw [← hW0]
  clear hW0
  go_cut [7] (fun s7 wx => s7 = .bool true ∧ Keep W0 wx (fun _ => False))
  case first =>
    have cb : W0.cell? ⟨w.heap.size, 3, none⟩ = some (.int .u32 g.mode) := cell_row (H0.out.row HW.out.2.1 (fun h => h))
    have hgb := HW.out.2.2.2.keep H0.out (fun _ h => h.elim)
    have HGB := Lib.hid hgb
    clear hgb
    have hb1 : (bits .and .u8 m 1 != 0) = true := by have := HS1.out; simp only [sS1, sB, Bool.and_eq_true] at this; exact this.1
    have hok : modeOk g.mode = false := by have := HS1.out; simp only [sS1, sB, Bool.and_eq_true] at this; simpa using this.2
    go_wp2_with (go_at_call 70; refine (mayMode_any _ _).mono ?_; rintro e w' ⟨rfl, rfl⟩)
    go_meet
    exact ⟨rfl, H0.out⟩
  case rest =>
  obtain ⟨rfl, hk⟩ := hcut
  obtain ⟨w1, rfl⟩ : ∃ x : World, x = wc := ⟨_, rfl⟩
  have H1 := Lib.hid hk
  clear hk
  go_wp2_with fail
  go_ret
  exact ⟨rfl, H1.out.row HW.out.2.2.1 (fun h => h), (HW.out.1.trans H1.out (fun _ _ h => h)).mono (fun _ _ h => h.elim)⟩

set_option maxHeartbeats 8000000 in
theorem set_w2 {w : World} {nb : Nat} {f : Inf} {kv bv : Value} (hn : row w nb = some (nodeC 1 f kv bv, 92)) {B : Nat} (hB : GB B w) {m : Int} {g : Inf} (hg : InfOk g) (h0 : sS0 m = false) (h1 : sS1 m g = false) (h2 : sS2 m g = true) :
    Calls Tryd.prog 43 #[.pointer (some ⟨nb, 0, none⟩), .int .u8 m, .agg g.cells.toArray] w fun e w' => e = .returned (.int .i64 1) ∧ row w' nb = some (nodeC 1 f kv bv, 92) ∧ Keep w w' (· = nb) := by
  obtain ⟨W0, hW0⟩ : ∃ W0, W0 = w.alloc (.cells g.cells.toArray 41) := ⟨_, rfl⟩
  have k0 : Keep w W0 (fun _ => False) := by rw [hW0]; exact Keep.alloc _ _ _
  have r0 : row W0 w.heap.size = some (g.cells.toArray, 41) := by rw [hW0]; exact row_alloc_at _ _ _ _ rfl
  have rn := k0.row hn (fun h => h)
  have hB0 := hB.keep k0 (fun _ h => h.elim)
  have hnl := row_lt hn
  have hne : w.heap.size ≠ nb := by omega
  have HW := Lib.hid (And.intro k0 (And.intro r0 (And.intro rn hB0)))
  have su := hg.uid
  have sg := hg.gid
  have sm := hg.muid
  have H0 := Lib.hid (Keep.refl W0 (fun _ => False))
  clear k0 r0 rn hB0 hB hn
  have HS1 := Lib.hid h1
  clear h1
  have HS2 := Lib.hid h2
  clear h2
  have hs0 : (bits .andNot .u8 m 127 != 0) = false := h0
  clear h0
  go_enter Tryd.func43, Tryd.ntmps43
  go_upto_region 2 with fail
  rw [← hW0]
  clear hW0
  go_cut [7] (fun s7 wx => s7 = .bool false ∧ Keep W0 wx (fun _ => False))
  case first =>
    have cb : W0.cell? ⟨w.heap.size, 3, none⟩ = some (.int .u32 g.mode) := cell_row (H0.out.row HW.out.2.1 (fun h => h))
    have hgb := HW.out.2.2.2.keep H0.out (fun _ h => h.elim)
    have HGB := Lib.hid hgb
    clear hgb
    cases hb1 : (bits .and .u8 m 1 != 0) with
    | true =>
      have hok : modeOk g.mode = true := by
        have := HS1.out
        simp only [sS1, sB, hb1] at this
        simpa using this
      go_wp2_with (go_at_call 70; refine (mayMode_any _ _).mono ?_; rintro e w' ⟨rfl, rfl⟩)
      go_meet
      exact ⟨rfl, H0.out⟩
    | false =>
      go_wp2_with fail
      go_meet
      exact ⟨rfl, H0.out⟩
  case rest =>
  obtain ⟨rfl, hk⟩ := hcut
  obtain ⟨w1, rfl⟩ : ∃ x : World, x = wc := ⟨_, rfl⟩
  have H1 := Lib.hid hk
  clear hk
  go_upto_region 3 with fail
  go_cut [7] (fun s7 wx => s7 = .bool true ∧ Keep W0 wx (fun _ => False))
  case first =>
    have cb : w1.cell? ⟨w.heap.size, 4, none⟩ = some (.string g.uid) := cell_row (H1.out.row HW.out.2.1 (fun h => h))
    have hgb := HW.out.2.2.2.keep H1.out (fun _ h => h.elim)
    have HGB := Lib.hid hgb
    clear hgb
    have hb1 : (bits .and .u8 m 2 != 0) = true := by have := HS2.out; simp only [sS2, sB, Bool.and_eq_true] at this; exact this.1
    have hok : userOk g.uid = false := by have := HS2.out; simp only [sS2, sB, Bool.and_eq_true] at this; simpa using this.2
    go_wp2_with (go_at_call 34; refine (mayUser_any _ _ B HGB.out su).mono ?_; rintro e w' ⟨rfl, hb⟩)
    go_meet
    exact ⟨rfl, H1.out.trans (Keep.of_below hb _) (fun _ _ h => h)⟩
  case rest =>
  obtain ⟨rfl, hk⟩ := hcut
  obtain ⟨w2, rfl⟩ : ∃ x : World, x = wc := ⟨_, rfl⟩
  have H2 := Lib.hid hk
  clear hk
  go_wp2_with fail
  go_ret
  exact ⟨rfl, H2.out.row HW.out.2.2.1 (fun h => h), (HW.out.1.trans H2.out (fun _ _ h => h)).mono (fun _ _ h => h.elim)⟩

set_option maxHeartbeats 8000000 in
theorem set_w3 {w : World} {nb : Nat} {f : Inf} {kv bv : Value} (hn : row w nb = some (nodeC 1 f kv bv, 92)) {B : Nat} (hB : GB B w) {m : Int} {g : Inf} (hg : InfOk g) (h0 : sS0 m = false) (h1 : sS1 m g = false) (h2 : sS2 m g = false) (h3 : sS3 m g = true) :
    Calls Tryd.prog 43 #[.pointer (some ⟨nb, 0, none⟩), .int .u8 m, .agg g.cells.toArray] w fun e w' => e = .returned (.int .i64 1) ∧ row w' nb = some (nodeC 1 f kv bv, 92) ∧ Keep w w' (· = nb) := by
  obtain ⟨W0, hW0⟩ : ∃ W0, W0 = w.alloc (.cells g.cells.toArray 41) := ⟨_, rfl⟩
  have k0 : Keep w W0 (fun _ => False) := by rw [hW0]; exact Keep.alloc _ _ _
  have r0 : row W0 w.heap.size = some (g.cells.toArray, 41) := by rw [hW0]; exact row_alloc_at _ _ _ _ rfl
  have rn := k0.row hn (fun h => h)
  have hB0 := hB.keep k0 (fun _ h => h.elim)
  have hnl := row_lt hn
  have hne : w.heap.size ≠ nb := by omega
  have HW := Lib.hid (And.intro k0 (And.intro r0 (And.intro rn hB0)))
  have su := hg.uid
  have sg := hg.gid
  have sm := hg.muid
  have H0 := Lib.hid (Keep.refl W0 (fun _ => False))
  clear k0 r0 rn hB0 hB hn
  have HS1 := Lib.hid h1
  clear h1
  have HS2 := Lib.hid h2
  clear h2
  have HS3 := Lib.hid h3
  clear h3
  have hs0 : (bits .andNot .u8 m 127 != 0) = false := h0
  clear h0
  go_enter Tryd.func43, Tryd.ntmps43
  go_upto_region 2 with fail
  rw [← hW0]
  clear hW0
  go_cut [7] (fun s7 wx => s7 = .bool false ∧ Keep W0 wx (fun _ => False))
  case first =>
    have cb : W0.cell? ⟨w.heap.size, 3, none⟩ = some (.int .u32 g.mode) := cell_row (H0.out.row HW.out.2.1 (fun h => h))
    have hgb := HW.out.2.2.2.keep H0.out (fun _ h => h.elim)
    have HGB := Lib.hid hgb
    clear hgb
    cases hb1 : (bits .and .u8 m 1 != 0) with
    | true =>
      have hok : modeOk g.mode = true := by
        have := HS1.out
        simp only [sS1, sB, hb1] at this
        simpa using this
      go_wp2_with (go_at_call 70; refine (mayMode_any _ _).mono ?_; rintro e w' ⟨rfl, rfl⟩)
      go_meet
      exact ⟨rfl, H0.out⟩
    | false =>
      go_wp2_with fail
      go_meet
      exact ⟨rfl, H0.out⟩
  case rest =>
  obtain ⟨rfl, hk⟩ := hcut
  obtain ⟨w1, rfl⟩ : ∃ x : World, x = wc := ⟨_, rfl⟩
  have H1 := Lib.hid hk
  clear hk
  go_upto_region 3 with fail
  go_cut [7] (fun s7 wx => s7 = .bool false ∧ Keep W0 wx (fun _ => False))
  case first =>
    have cb : w1.cell? ⟨w.heap.size, 4, none⟩ = some (.string g.uid) := cell_row (H1.out.row HW.out.2.1 (fun h => h))
    have hgb := HW.out.2.2.2.keep H1.out (fun _ h => h.elim)
    have HGB := Lib.hid hgb
    clear hgb
    cases hb1 : (bits .and .u8 m 2 != 0) with
    | true =>
      have hok : userOk g.uid = true := by
        have := HS2.out
        simp only [sS2, sB, hb1] at this
        simpa using this
      go_wp2_with (go_at_call 34; refine (mayUser_any _ _ B HGB.out su).mono ?_; rintro e w' ⟨rfl, hb⟩)
      go_meet
      exact ⟨rfl, H1.out.trans (Keep.of_below hb _) (fun _ _ h => h)⟩
    | false =>
      go_wp2_with fail
      go_meet
      exact ⟨rfl, H1.out⟩
  case rest =>
  obtain ⟨rfl, hk⟩ := hcut
  obtain ⟨w2, rfl⟩ : ∃ x : World, x = wc := ⟨_, rfl⟩
  have H2 := Lib.hid hk
  clear hk
  go_upto_region 4 with fail
  go_cut [7] (fun s7 wx => s7 = .bool true ∧ Keep W0 wx (fun _ => False))
  case first =>
    have cb : w2.cell? ⟨w.heap.size, 5, none⟩ = some (.string g.gid) := cell_row (H2.out.row HW.out.2.1 (fun h => h))
    have hgb := HW.out.2.2.2.keep H2.out (fun _ h => h.elim)
    have HGB := Lib.hid hgb
    clear hgb
    have hb1 : (bits .and .u8 m 4 != 0) = true := by have := HS3.out; simp only [sS3, sB, Bool.and_eq_true] at this; exact this.1
    have hok : userOk g.gid = false := by have := HS3.out; simp only [sS3, sB, Bool.and_eq_true] at this; simpa using this.2
    go_wp2_with (go_at_call 34; refine (mayUser_any _ _ B HGB.out sg).mono ?_; rintro e w' ⟨rfl, hb⟩)
    go_meet
    exact ⟨rfl, H2.out.trans (Keep.of_below hb _) (fun _ _ h => h)⟩
  case rest =>
  obtain ⟨rfl, hk⟩ := hcut
  obtain ⟨w3, rfl⟩ : ∃ x : World, x = wc := ⟨_, rfl⟩
  have H3 := Lib.hid hk
  clear hk
  go_wp2_with fail
  go_ret
  exact ⟨rfl, H3.out.row HW.out.2.2.1 (fun h => h), (HW.out.1.trans H3.out (fun _ _ h => h)).mono (fun _ _ h => h.elim)⟩

set_option maxHeartbeats 8000000 in
theorem set_w4 {w : World} {nb : Nat} {f : Inf} {kv bv : Value} (hn : row w nb = some (nodeC 1 f kv bv, 92)) {B : Nat} (hB : GB B w) {m : Int} {g : Inf} (hg : InfOk g) (h0 : sS0 m = false) (h1 : sS1 m g = false) (h2 : sS2 m g = false) (h3 : sS3 m g = false) (h4 : sS4 m g = true) :
    Calls Tryd.prog 43 #[.pointer (some ⟨nb, 0, none⟩), .int .u8 m, .agg g.cells.toArray] w fun e w' => e = .returned (.int .i64 1) ∧ row w' nb = some (nodeC 1 f kv bv, 92) ∧ Keep w w' (· = nb) := by
  obtain ⟨W0, hW0⟩ : ∃ W0, W0 = w.alloc (.cells g.cells.toArray 41) := ⟨_, rfl⟩
  have k0 : Keep w W0 (fun _ => False) := by rw [hW0]; exact Keep.alloc _ _ _
  have r0 : row W0 w.heap.size = some (g.cells.toArray, 41) := by rw [hW0]; exact row_alloc_at _ _ _ _ rfl
  have rn := k0.row hn (fun h => h)
  have hB0 := hB.keep k0 (fun _ h => h.elim)
  have hnl := row_lt hn
  have hne : w.heap.size ≠ nb := by omega
  have HW := Lib.hid (And.intro k0 (And.intro r0 (And.intro rn hB0)))
  have su := hg.uid
  have sg := hg.gid
  have sm := hg.muid
  have H0 := Lib.hid (Keep.refl W0 (fun _ => False))
  clear k0 r0 rn hB0 hB hn
  have HS1 := Lib.hid h1
  clear h1
  have HS2 := Lib.hid h2
  clear h2
  have HS3 := Lib.hid h3
  clear h3
  have HS4 := Lib.hid h4
  clear h4
  have hs0 : (bits .andNot .u8 m 127 != 0) = false := h0
  clear h0
  go_enter Tryd.func43, Tryd.ntmps43
  go_upto_region 2 with fail
  rw [← hW0]
  clear hW0
  go_cut [7] (fun s7 wx => s7 = .bool false ∧ Keep W0 wx (fun _ => False))
  case first =>
    have cb : W0.cell? ⟨w.heap.size, 3, none⟩ = some (.int .u32 g.mode) := cell_row (H0.out.row HW.out.2.1 (fun h => h))
    have hgb := HW.out.2.2.2.keep H0.out (fun _ h => h.elim)
    have HGB := Lib.hid hgb
    clear hgb
    cases hb1 : (bits .and .u8 m 1 != 0) with
    | true =>
      have hok : modeOk g.mode = true := by
        have := HS1.out
        simp only [sS1, sB, hb1] at this
        simpa using this
      go_wp2_with (go_at_call 70; refine (mayMode_any _ _).mono ?_; rintro e w' ⟨rfl, rfl⟩)
      go_meet
      exact ⟨rfl, H0.out⟩
    | false =>
      go_wp2_with fail
      go_meet
      exact ⟨rfl, H0.out⟩
  case rest =>
  obtain ⟨rfl, hk⟩ := hcut
  obtain ⟨w1, rfl⟩ : ∃ x : World, x = wc := ⟨_, rfl⟩
  have H1 := Lib.hid hk
  clear hk
  go_upto_region 3 with fail
  go_cut [7] (fun s7 wx => s7 = .bool false ∧ Keep W0 wx (fun _ => False))
  case first =>
    have cb : w1.cell? ⟨w.heap.size, 4, none⟩ = some (.string g.uid) := cell_row (H1.out.row HW.out.2.1 (fun h => h))
    have hgb := HW.out.2.2.2.keep H1.out (fun _ h => h.elim)
    have HGB := Lib.hid hgb
    clear hgb
    cases hb1 : (bits .and .u8 m 2 != 0) with
    | true =>
      have hok : userOk g.uid = true := by
        have := HS2.out
        simp only [sS2, sB, hb1] at this
        simpa using this
      go_wp2_with (go_at_call 34; refine (mayUser_any _ _ B HGB.out su).mono ?_; rintro e w' ⟨rfl, hb⟩)
      go_meet
      exact ⟨rfl, H1.out.trans (Keep.of_below hb _) (fun _ _ h => h)⟩
    | false =>
      go_wp2_with fail
      go_meet
      exact ⟨rfl, H1.out⟩
  case rest =>
  obtain ⟨rfl, hk⟩ := hcut
  obtain ⟨w2, rfl⟩ : ∃ x : World, x = wc := ⟨_, rfl⟩
  have H2 := Lib.hid hk
  clear hk
  go_upto_region 4 with fail
  go_cut [7] (fun s7 wx => s7 = .bool false ∧ Keep W0 wx (fun _ => False))
  case first =>
    have cb : w2.cell? ⟨w.heap.size, 5, none⟩ = some (.string g.gid) := cell_row (H2.out.row HW.out.2.1 (fun h => h))
    have hgb := HW.out.2.2.2.keep H2.out (fun _ h => h.elim)
    have HGB := Lib.hid hgb
    clear hgb
    cases hb1 : (bits .and .u8 m 4 != 0) with
    | true =>
      have hok : userOk g.gid = true := by
        have := HS3.out
        simp only [sS3, sB, hb1] at this
        simpa using this
      go_wp2_with (go_at_call 34; refine (mayUser_any _ _ B HGB.out sg).mono ?_; rintro e w' ⟨rfl, hb⟩)
      go_meet
      exact ⟨rfl, H2.out.trans (Keep.of_below hb _) (fun _ _ h => h)⟩
    | false =>
      go_wp2_with fail
      go_meet
      exact ⟨rfl, H2.out⟩
  case rest =>
  obtain ⟨rfl, hk⟩ := hcut
  obtain ⟨w3, rfl⟩ : ∃ x : World, x = wc := ⟨_, rfl⟩
  have H3 := Lib.hid hk
  clear hk
  go_upto_region 5 with fail
  go_cut [7] (fun s7 wx => s7 = .bool true ∧ Keep W0 wx (fun _ => False))
  case first =>
    have cb : w3.cell? ⟨w.heap.size, 6, none⟩ = some (.string g.muid) := cell_row (H3.out.row HW.out.2.1 (fun h => h))
    have hgb := HW.out.2.2.2.keep H3.out (fun _ h => h.elim)
    have HGB := Lib.hid hgb
    clear hgb
    have hb1 : (bits .and .u8 m 8 != 0) = true := by have := HS4.out; simp only [sS4, sB, Bool.and_eq_true] at this; exact this.1
    have hok : userOk g.muid = false := by have := HS4.out; simp only [sS4, sB, Bool.and_eq_true] at this; simpa using this.2
    go_wp2_with (go_at_call 34; refine (mayUser_any _ _ B HGB.out sm).mono ?_; rintro e w' ⟨rfl, hb⟩)
    go_meet
    exact ⟨rfl, H3.out.trans (Keep.of_below hb _) (fun _ _ h => h)⟩
  case rest =>
  obtain ⟨rfl, hk⟩ := hcut
  obtain ⟨w4, rfl⟩ : ∃ x : World, x = wc := ⟨_, rfl⟩
  have H4 := Lib.hid hk
  clear hk
  go_wp2_with fail
  go_ret
  exact ⟨rfl, H4.out.row HW.out.2.2.1 (fun h => h), (HW.out.1.trans H4.out (fun _ _ h => h)).mono (fun _ _ h => h.elim)⟩

set_option maxHeartbeats 8000000 in
theorem set_w5 {w : World} {nb : Nat} {f : Inf} {kv bv : Value} (hn : row w nb = some (nodeC 1 f kv bv, 92)) {B : Nat} (hB : GB B w) {m : Int} {g : Inf} (hg : InfOk g) (h0 : sS0 m = false) (h1 : sS1 m g = false) (h2 : sS2 m g = false) (h3 : sS3 m g = false) (h4 : sS4 m g = false) (h5 : sS5 m g f = true) :
    Calls Tryd.prog 43 #[.pointer (some ⟨nb, 0, none⟩), .int .u8 m, .agg g.cells.toArray] w fun e w' => e = .returned (.int .i64 81) ∧ row w' nb = some (nodeC 1 f kv bv, 92) ∧ Keep w w' (· = nb) := by
  obtain ⟨W0, hW0⟩ : ∃ W0, W0 = w.alloc (.cells g.cells.toArray 41) := ⟨_, rfl⟩
  have k0 : Keep w W0 (fun _ => False) := by rw [hW0]; exact Keep.alloc _ _ _
  have r0 : row W0 w.heap.size = some (g.cells.toArray, 41) := by rw [hW0]; exact row_alloc_at _ _ _ _ rfl
  have rn := k0.row hn (fun h => h)
  have hB0 := hB.keep k0 (fun _ h => h.elim)
  have hnl := row_lt hn
  have hne : w.heap.size ≠ nb := by omega
  have HW := Lib.hid (And.intro k0 (And.intro r0 (And.intro rn hB0)))
  have su := hg.uid
  have sg := hg.gid
  have sm := hg.muid
  have H0 := Lib.hid (Keep.refl W0 (fun _ => False))
  clear k0 r0 rn hB0 hB hn
  have HS1 := Lib.hid h1
  clear h1
  have HS2 := Lib.hid h2
  clear h2
  have HS3 := Lib.hid h3
  clear h3
  have HS4 := Lib.hid h4
  clear h4
  have HS5 := Lib.hid h5
  clear h5
  have hs0 : (bits .andNot .u8 m 127 != 0) = false := h0
  clear h0
  go_enter Tryd.func43, Tryd.ntmps43
  go_upto_region 2 with fail
  rw [← hW0]
  clear hW0
  go_cut [7] (fun s7 wx => s7 = .bool false ∧ Keep W0 wx (fun _ => False))
  case first =>
    have cb : W0.cell? ⟨w.heap.size, 3, none⟩ = some (.int .u32 g.mode) := cell_row (H0.out.row HW.out.2.1 (fun h => h))
    have hgb := HW.out.2.2.2.keep H0.out (fun _ h => h.elim)
    have HGB := Lib.hid hgb
    clear hgb
    cases hb1 : (bits .and .u8 m 1 != 0) with
    | true =>
      have hok : modeOk g.mode = true := by
        have := HS1.out
        simp only [sS1, sB, hb1] at this
        simpa using this
      go_wp2_with (go_at_call 70; refine (mayMode_any _ _).mono ?_; rintro e w' ⟨rfl, rfl⟩)
      go_meet
      exact ⟨rfl, H0.out⟩
    | false =>
      go_wp2_with fail
      go_meet
      exact ⟨rfl, H0.out⟩
  case rest =>
  obtain ⟨rfl, hk⟩ := hcut
  obtain ⟨w1, rfl⟩ : ∃ x : World, x = wc := ⟨_, rfl⟩
  have H1 := Lib.hid hk
  clear hk
  go_upto_region 3 with fail
  go_cut [7] (fun s7 wx => s7 = .bool false ∧ Keep W0 wx (fun _ => False))
  case first =>
    have cb : w1.cell? ⟨w.heap.size, 4, none⟩ = some (.string g.uid) := cell_row (H1.out.row HW.out.2.1 (fun h => h))
    have hgb := HW.out.2.2.2.keep H1.out (fun _ h => h.elim)
    have HGB := Lib.hid hgb
    clear hgb
    cases hb1 : (bits .and .u8 m 2 != 0) with
    | true =>
      have hok : userOk g.uid = true := by
        have := HS2.out
        simp only [sS2, sB, hb1] at this
        simpa using this
      go_wp2_with (go_at_call 34; refine (mayUser_any _ _ B HGB.out su).mono ?_; rintro e w' ⟨rfl, hb⟩)
      go_meet
      exact ⟨rfl, H1.out.trans (Keep.of_below hb _) (fun _ _ h => h)⟩
    | false =>
      go_wp2_with fail
      go_meet
      exact ⟨rfl, H1.out⟩
  case rest =>
  obtain ⟨rfl, hk⟩ := hcut
  obtain ⟨w2, rfl⟩ : ∃ x : World, x = wc := ⟨_, rfl⟩
  have H2 := Lib.hid hk
  clear hk
  go_upto_region 4 with fail
  go_cut [7] (fun s7 wx => s7 = .bool false ∧ Keep W0 wx (fun _ => False))
  case first =>
    have cb : w2.cell? ⟨w.heap.size, 5, none⟩ = some (.string g.gid) := cell_row (H2.out.row HW.out.2.1 (fun h => h))
    have hgb := HW.out.2.2.2.keep H2.out (fun _ h => h.elim)
    have HGB := Lib.hid hgb
    clear hgb
    cases hb1 : (bits .and .u8 m 4 != 0) with
    | true =>
      have hok : userOk g.gid = true := by
        have := HS3.out
        simp only [sS3, sB, hb1] at this
        simpa using this
      go_wp2_with (go_at_call 34; refine (mayUser_any _ _ B HGB.out sg).mono ?_; rintro e w' ⟨rfl, hb⟩)
      go_meet
      exact ⟨rfl, H2.out.trans (Keep.of_below hb _) (fun _ _ h => h)⟩
    | false =>
      go_wp2_with fail
      go_meet
      exact ⟨rfl, H2.out⟩
  case rest =>
  obtain ⟨rfl, hk⟩ := hcut
  obtain ⟨w3, rfl⟩ : ∃ x : World, x = wc := ⟨_, rfl⟩
  have H3 := Lib.hid hk
  clear hk
  go_upto_region 5 with fail
  go_cut [7] (fun s7 wx => s7 = .bool false ∧ Keep W0 wx (fun _ => False))
  case first =>
    have cb : w3.cell? ⟨w.heap.size, 6, none⟩ = some (.string g.muid) := cell_row (H3.out.row HW.out.2.1 (fun h => h))
    have hgb := HW.out.2.2.2.keep H3.out (fun _ h => h.elim)
    have HGB := Lib.hid hgb
    clear hgb
    cases hb1 : (bits .and .u8 m 8 != 0) with
    | true =>
      have hok : userOk g.muid = true := by
        have := HS4.out
        simp only [sS4, sB, hb1] at this
        simpa using this
      go_wp2_with (go_at_call 34; refine (mayUser_any _ _ B HGB.out sm).mono ?_; rintro e w' ⟨rfl, hb⟩)
      go_meet
      exact ⟨rfl, H3.out.trans (Keep.of_below hb _) (fun _ _ h => h)⟩
    | false =>
      go_wp2_with fail
      go_meet
      exact ⟨rfl, H3.out⟩
  case rest =>
  obtain ⟨rfl, hk⟩ := hcut
  obtain ⟨w4, rfl⟩ : ∃ x : World, x = wc := ⟨_, rfl⟩
  have H4 := Lib.hid hk
  clear hk
  go_upto_region 7 with fail
  go_cut [47] (fun s47 wx => s47 = .bool true ∧ Keep W0 wx (fun _ => False))
  case first =>
    have cb : w4.cell? ⟨w.heap.size, 3, none⟩ = some (.int .u32 g.mode) := cell_row (H4.out.row HW.out.2.1 (fun h => h))
    have cn : w4.cell? ⟨nb, 5, none⟩ = some (.int .u32 f.mode) := cell_row (H4.out.row HW.out.2.2.1 (fun h => h))
    have hx := isDir_xor g.mode f.mode
    have hb1 : (bits .and .u8 m 1 != 0) = true := by have := HS5.out; simp only [sS5, sB, Bool.and_eq_true] at this; exact this.1
    have hok : (isDir g.mode != isDir f.mode) = true := by have := HS5.out; simp only [sS5, sB, Bool.and_eq_true] at this; exact this.2
    rw [hok] at hx
    clear hok
    go_quiet (fail)
    go_wp2_with fail
    go_meet
    exact ⟨rfl, H4.out.trans (Keep.drewN _ _ _) (fun _ _ h => h)⟩
  case rest =>
  obtain ⟨rfl, hk⟩ := hcut
  obtain ⟨w5, rfl⟩ : ∃ x : World, x = wc := ⟨_, rfl⟩
  have H5 := Lib.hid hk
  clear hk
  go_wp2_with fail
  go_ret
  exact ⟨rfl, H5.out.row HW.out.2.2.1 (fun h => h), (HW.out.1.trans H5.out (fun _ _ h => h)).mono (fun _ _ h => h.elim)⟩

set_option maxHeartbeats 8000000 in
theorem set_w6 {w : World} {nb : Nat} {f : Inf} {kv bv : Value} (hn : row w nb = some (nodeC 1 f kv bv, 92)) {B : Nat} (hB : GB B w) {m : Int} {g : Inf} (hg : InfOk g) (h0 : sS0 m = false) (h1 : sS1 m g = false) (h2 : sS2 m g = false) (h3 : sS3 m g = false) (h4 : sS4 m g = false) (h5 : sS5 m g f = false) :
    Calls Tryd.prog 43 #[.pointer (some ⟨nb, 0, none⟩), .int .u8 m, .agg g.cells.toArray] w fun e w' => e = .returned (.int .i64 0) ∧ row w' nb = some (nodeC 1 (sF m g f) kv bv, 92) ∧ Keep w w' (· = nb) := by
  obtain ⟨W0, hW0⟩ : ∃ W0, W0 = w.alloc (.cells g.cells.toArray 41) := ⟨_, rfl⟩
  have k0 : Keep w W0 (fun _ => False) := by rw [hW0]; exact Keep.alloc _ _ _
  have r0 : row W0 w.heap.size = some (g.cells.toArray, 41) := by rw [hW0]; exact row_alloc_at _ _ _ _ rfl
  have rn := k0.row hn (fun h => h)
  have hB0 := hB.keep k0 (fun _ h => h.elim)
  have hnl := row_lt hn
  have hne : w.heap.size ≠ nb := by omega
  have HW := Lib.hid (And.intro k0 (And.intro r0 (And.intro rn hB0)))
  have su := hg.uid
  have sg := hg.gid
  have sm := hg.muid
  have H0 := Lib.hid (Keep.refl W0 (fun _ => False))
  clear k0 r0 rn hB0 hB hn
  have HS1 := Lib.hid h1
  clear h1
  have HS2 := Lib.hid h2
  clear h2
  have HS3 := Lib.hid h3
  clear h3
  have HS4 := Lib.hid h4
  clear h4
  have HS5 := Lib.hid h5
  clear h5
  have hs0 : (bits .andNot .u8 m 127 != 0) = false := h0
  clear h0
  go_enter Tryd.func43, Tryd.ntmps43
  go_upto_region 2 with fail
  rw [← hW0]
  clear hW0
  go_cut [7] (fun s7 wx => s7 = .bool false ∧ Keep W0 wx (fun _ => False))
  case first =>
    have cb : W0.cell? ⟨w.heap.size, 3, none⟩ = some (.int .u32 g.mode) := cell_row (H0.out.row HW.out.2.1 (fun h => h))
    have hgb := HW.out.2.2.2.keep H0.out (fun _ h => h.elim)
    have HGB := Lib.hid hgb
    clear hgb
    cases hb1 : (bits .and .u8 m 1 != 0) with
    | true =>
      have hok : modeOk g.mode = true := by
        have := HS1.out
        simp only [sS1, sB, hb1] at this
        simpa using this
      go_wp2_with (go_at_call 70; refine (mayMode_any _ _).mono ?_; rintro e w' ⟨rfl, rfl⟩)
      go_meet
      exact ⟨rfl, H0.out⟩
    | false =>
      go_wp2_with fail
      go_meet
      exact ⟨rfl, H0.out⟩
  case rest =>
  obtain ⟨rfl, hk⟩ := hcut
  obtain ⟨w1, rfl⟩ : ∃ x : World, x = wc := ⟨_, rfl⟩
  have H1 := Lib.hid hk
  clear hk
  go_upto_region 3 with fail
  go_cut [7] (fun s7 wx => s7 = .bool false ∧ Keep W0 wx (fun _ => False))
  case first =>
    have cb : w1.cell? ⟨w.heap.size, 4, none⟩ = some (.string g.uid) := cell_row (H1.out.row HW.out.2.1 (fun h => h))
    have hgb := HW.out.2.2.2.keep H1.out (fun _ h => h.elim)
    have HGB := Lib.hid hgb
    clear hgb
    cases hb1 : (bits .and .u8 m 2 != 0) with
    | true =>
      have hok : userOk g.uid = true := by
        have := HS2.out
        simp only [sS2, sB, hb1] at this
        simpa using this
      go_wp2_with (go_at_call 34; refine (mayUser_any _ _ B HGB.out su).mono ?_; rintro e w' ⟨rfl, hb⟩)
      go_meet
      exact ⟨rfl, H1.out.trans (Keep.of_below hb _) (fun _ _ h => h)⟩
    | false =>
      go_wp2_with fail
      go_meet
      exact ⟨rfl, H1.out⟩
  case rest =>
  obtain ⟨rfl, hk⟩ := hcut
  obtain ⟨w2, rfl⟩ : ∃ x : World, x = wc := ⟨_, rfl⟩
  have H2 := Lib.hid hk
  clear hk
  go_upto_region 4 with fail
  go_cut [7] (fun s7 wx => s7 = .bool false ∧ Keep W0 wx (fun _ => False))
  case first =>
    have cb : w2.cell? ⟨w.heap.size, 5, none⟩ = some (.string g.gid) := cell_row (H2.out.row HW.out.2.1 (fun h => h))
    have hgb := HW.out.2.2.2.keep H2.out (fun _ h => h.elim)
    have HGB := Lib.hid hgb
    clear hgb
    cases hb1 : (bits .and .u8 m 4 != 0) with
    | true =>
      have hok : userOk g.gid = true := by
        have := HS3.out
        simp only [sS3, sB, hb1] at this
        simpa using this
      go_wp2_with (go_at_call 34; refine (mayUser_any _ _ B HGB.out sg).mono ?_; rintro e w' ⟨rfl, hb⟩)
      go_meet
      exact ⟨rfl, H2.out.trans (Keep.of_below hb _) (fun _ _ h => h)⟩
    | false =>
      go_wp2_with fail
      go_meet
      exact ⟨rfl, H2.out⟩
  case rest =>
  obtain ⟨rfl, hk⟩ := hcut
  obtain ⟨w3, rfl⟩ : ∃ x : World, x = wc := ⟨_, rfl⟩
  have H3 := Lib.hid hk
  clear hk
  go_upto_region 5 with fail
  go_cut [7] (fun s7 wx => s7 = .bool false ∧ Keep W0 wx (fun _ => False))
  case first =>
    have cb : w3.cell? ⟨w.heap.size, 6, none⟩ = some (.string g.muid) := cell_row (H3.out.row HW.out.2.1 (fun h => h))
    have hgb := HW.out.2.2.2.keep H3.out (fun _ h => h.elim)
    have HGB := Lib.hid hgb
    clear hgb
    cases hb1 : (bits .and .u8 m 8 != 0) with
    | true =>
      have hok : userOk g.muid = true := by
        have := HS4.out
        simp only [sS4, sB, hb1] at this
        simpa using this
      go_wp2_with (go_at_call 34; refine (mayUser_any _ _ B HGB.out sm).mono ?_; rintro e w' ⟨rfl, hb⟩)
      go_meet
      exact ⟨rfl, H3.out.trans (Keep.of_below hb _) (fun _ _ h => h)⟩
    | false =>
      go_wp2_with fail
      go_meet
      exact ⟨rfl, H3.out⟩
  case rest =>
  obtain ⟨rfl, hk⟩ := hcut
  obtain ⟨w4, rfl⟩ : ∃ x : World, x = wc := ⟨_, rfl⟩
  have H4 := Lib.hid hk
  clear hk
  go_upto_region 7 with fail
  go_cut [47] (fun s47 wx => s47 = .bool false ∧ Keep W0 wx (fun _ => False))
  case first =>
    have cb : w4.cell? ⟨w.heap.size, 3, none⟩ = some (.int .u32 g.mode) := cell_row (H4.out.row HW.out.2.1 (fun h => h))
    have cn : w4.cell? ⟨nb, 5, none⟩ = some (.int .u32 f.mode) := cell_row (H4.out.row HW.out.2.2.1 (fun h => h))
    have hx := isDir_xor g.mode f.mode
    cases hb1 : (bits .and .u8 m 1 != 0) with
    | true =>
      have hok : (isDir g.mode != isDir f.mode) = false := by
        have := HS5.out
        simp only [sS5, sB, hb1, Bool.true_and] at this
        exact this
      rw [hok] at hx
      clear hok
      go_quiet (fail)
      go_wp2_with fail
      go_meet
      exact ⟨rfl, H4.out.trans (Keep.drewN _ _ _) (fun _ _ h => h)⟩
    | false =>
      clear hx
      go_quiet (fail)
      go_wp2_with fail
      go_meet
      exact ⟨rfl, H4.out.trans (Keep.drewN _ _ _) (fun _ _ h => h)⟩
  case rest =>
  obtain ⟨rfl, hk⟩ := hcut
  obtain ⟨w5, rfl⟩ : ∃ x : World, x = wc := ⟨_, rfl⟩
  have H5 := Lib.hid hk
  clear hk
  have J0 := Lib.hid (And.intro (H5.out.row HW.out.2.2.1 (fun h => h)) (H5.out.mono (S' := (· = nb)) (fun _ _ h => h.elim)))
  obtain ⟨f1, hf1⟩ : ∃ x, x = sF1 m g f := ⟨_, rfl⟩
  have HF1 := Lib.hid hf1
  clear hf1
  go_upto_if 65 with fail
  go_cut [] (fun wx => row wx nb = some (nodeC 1 f1 kv bv, 92) ∧ Keep W0 wx (· = nb))
  case first =>
    have cn : w5.cell? ⟨nb, 5, none⟩ = some (.int .u32 f.mode) := cell_row J0.out.1
    have cf : w5.frozen? ⟨nb, 5, none⟩ = false := frozen_row J0.out.1
    have cb : w5.cell? ⟨w.heap.size, 3, none⟩ = some (.int .u32 g.mode) := cell_row (J0.out.2.row HW.out.2.1 hne)
    cases hb1 : (bits .and .u8 m 1 != 0) with
    | true =>
      go_wp2_with fail
      go_meet
      refine ⟨?_, J0.out.2.thenCell _ _ (fun _ => rfl)⟩
      rw [row_setCell J0.out.1, HF1.out]
      have e : sF1 m g f = { f with mode := g.mode } := if_pos hb1
      rw [e]
      rfl
    | false =>
      go_wp2_with fail
      go_meet
      have e : sF1 m g f = f := if_neg (by unfold sB; rw [hb1]; simp)
      rw [HF1.out, e]
      exact J0.out
  case rest =>
  obtain ⟨hk1, hk2⟩ := hcut
  obtain ⟨v1, rfl⟩ : ∃ x : World, x = wc := ⟨_, rfl⟩
  have J1 := Lib.hid (And.intro hk1 hk2)
  clear hk1 hk2
  obtain ⟨f2, hf2⟩ : ∃ x, x = sF2 m g f1 := ⟨_, rfl⟩
  have HF2 := Lib.hid hf2
  clear hf2
  go_upto_if 74 with fail
  go_cut [] (fun wx => row wx nb = some (nodeC 1 f2 kv bv, 92) ∧ Keep W0 wx (· = nb))
  case first =>
    have cn : v1.cell? ⟨nb, 6, none⟩ = some (.string f1.uid) := cell_row J1.out.1
    have cf : v1.frozen? ⟨nb, 6, none⟩ = false := frozen_row J1.out.1
    have cb : v1.cell? ⟨w.heap.size, 4, none⟩ = some (.string g.uid) := cell_row (J1.out.2.row HW.out.2.1 hne)
    cases hb1 : (bits .and .u8 m 2 != 0) with
    | true =>
      go_wp2_with fail
      go_meet
      refine ⟨?_, J1.out.2.thenCell _ _ (fun _ => rfl)⟩
      rw [row_setCell J1.out.1, HF2.out]
      have e : sF2 m g f1 = { f1 with uid := g.uid } := if_pos hb1
      rw [e]
      rfl
    | false =>
      go_wp2_with fail
      go_meet
      have e : sF2 m g f1 = f1 := if_neg (by unfold sB; rw [hb1]; simp)
      rw [HF2.out, e]
      exact J1.out
  case rest =>
  obtain ⟨hk1, hk2⟩ := hcut
  obtain ⟨v2, rfl⟩ : ∃ x : World, x = wc := ⟨_, rfl⟩
  have J2 := Lib.hid (And.intro hk1 hk2)
  clear hk1 hk2
  obtain ⟨f3, hf3⟩ : ∃ x, x = sF3 m g f2 := ⟨_, rfl⟩
  have HF3 := Lib.hid hf3
  clear hf3
  go_upto_if 83 with fail
  go_cut [] (fun wx => row wx nb = some (nodeC 1 f3 kv bv, 92) ∧ Keep W0 wx (· = nb))
  case first =>
    have cn : v2.cell? ⟨nb, 7, none⟩ = some (.string f2.gid) := cell_row J2.out.1
    have cf : v2.frozen? ⟨nb, 7, none⟩ = false := frozen_row J2.out.1
    have cb : v2.cell? ⟨w.heap.size, 5, none⟩ = some (.string g.gid) := cell_row (J2.out.2.row HW.out.2.1 hne)
    cases hb1 : (bits .and .u8 m 4 != 0) with
    | true =>
      go_wp2_with fail
      go_meet
      refine ⟨?_, J2.out.2.thenCell _ _ (fun _ => rfl)⟩
      rw [row_setCell J2.out.1, HF3.out]
      have e : sF3 m g f2 = { f2 with gid := g.gid } := if_pos hb1
      rw [e]
      rfl
    | false =>
      go_wp2_with fail
      go_meet
      have e : sF3 m g f2 = f2 := if_neg (by unfold sB; rw [hb1]; simp)
      rw [HF3.out, e]
      exact J2.out
  case rest =>
  obtain ⟨hk1, hk2⟩ := hcut
  obtain ⟨v3, rfl⟩ : ∃ x : World, x = wc := ⟨_, rfl⟩
  have J3 := Lib.hid (And.intro hk1 hk2)
  clear hk1 hk2
  obtain ⟨f4, hf4⟩ : ∃ x, x = sF4 m g f3 := ⟨_, rfl⟩
  have HF4 := Lib.hid hf4
  clear hf4
  go_upto_if 92 with fail
  go_cut [] (fun wx => row wx nb = some (nodeC 1 f4 kv bv, 92) ∧ Keep W0 wx (· = nb))
  case first =>
    have cn : v3.cell? ⟨nb, 8, none⟩ = some (.string f3.muid) := cell_row J3.out.1
    have cf : v3.frozen? ⟨nb, 8, none⟩ = false := frozen_row J3.out.1
    have cb : v3.cell? ⟨w.heap.size, 6, none⟩ = some (.string g.muid) := cell_row (J3.out.2.row HW.out.2.1 hne)
    cases hb1 : (bits .and .u8 m 8 != 0) with
    | true =>
      go_wp2_with fail
      go_meet
      refine ⟨?_, J3.out.2.thenCell _ _ (fun _ => rfl)⟩
      rw [row_setCell J3.out.1, HF4.out]
      have e : sF4 m g f3 = { f3 with muid := g.muid } := if_pos hb1
      rw [e]
      rfl
    | false =>
      go_wp2_with fail
      go_meet
      have e : sF4 m g f3 = f3 := if_neg (by unfold sB; rw [hb1]; simp)
      rw [HF4.out, e]
      exact J3.out
  case rest =>
  obtain ⟨hk1, hk2⟩ := hcut
  obtain ⟨v4, rfl⟩ : ∃ x : World, x = wc := ⟨_, rfl⟩
  have J4 := Lib.hid (And.intro hk1 hk2)
  clear hk1 hk2
  obtain ⟨f5, hf5⟩ : ∃ x, x = sF5 m g f4 := ⟨_, rfl⟩
  have HF5 := Lib.hid hf5
  clear hf5
  go_upto_if 101 with fail
  go_cut [] (fun wx => row wx nb = some (nodeC 1 f5 kv bv, 92) ∧ Keep W0 wx (· = nb))
  case first =>
    have cn : v4.cell? ⟨nb, 9, none⟩ = some (.int .u32 f4.atime) := cell_row J4.out.1
    have cf : v4.frozen? ⟨nb, 9, none⟩ = false := frozen_row J4.out.1
    have cb : v4.cell? ⟨w.heap.size, 7, none⟩ = some (.int .u32 g.atime) := cell_row (J4.out.2.row HW.out.2.1 hne)
    cases hb1 : (bits .and .u8 m 16 != 0) with
    | true =>
      go_wp2_with fail
      go_meet
      refine ⟨?_, J4.out.2.thenCell _ _ (fun _ => rfl)⟩
      rw [row_setCell J4.out.1, HF5.out]
      have e : sF5 m g f4 = { f4 with atime := g.atime } := if_pos hb1
      rw [e]
      rfl
    | false =>
      go_wp2_with fail
      go_meet
      have e : sF5 m g f4 = f4 := if_neg (by unfold sB; rw [hb1]; simp)
      rw [HF5.out, e]
      exact J4.out
  case rest =>
  obtain ⟨hk1, hk2⟩ := hcut
  obtain ⟨v5, rfl⟩ : ∃ x : World, x = wc := ⟨_, rfl⟩
  have J5 := Lib.hid (And.intro hk1 hk2)
  clear hk1 hk2
  obtain ⟨f6, hf6⟩ : ∃ x, x = sF6 m g f5 := ⟨_, rfl⟩
  have HF6 := Lib.hid hf6
  clear hf6
  go_upto_if 110 with fail
  go_cut [] (fun wx => row wx nb = some (nodeC 1 f6 kv bv, 92) ∧ Keep W0 wx (· = nb))
  case first =>
    have cn : v5.cell? ⟨nb, 10, none⟩ = some (.int .u32 f5.mtime) := cell_row J5.out.1
    have cf : v5.frozen? ⟨nb, 10, none⟩ = false := frozen_row J5.out.1
    have cb : v5.cell? ⟨w.heap.size, 8, none⟩ = some (.int .u32 g.mtime) := cell_row (J5.out.2.row HW.out.2.1 hne)
    cases hb1 : (bits .and .u8 m 32 != 0) with
    | true =>
      go_wp2_with fail
      go_meet
      refine ⟨?_, J5.out.2.thenCell _ _ (fun _ => rfl)⟩
      rw [row_setCell J5.out.1, HF6.out]
      have e : sF6 m g f5 = { f5 with mtime := g.mtime } := if_pos hb1
      rw [e]
      rfl
    | false =>
      go_wp2_with fail
      go_meet
      have e : sF6 m g f5 = f5 := if_neg (by unfold sB; rw [hb1]; simp)
      rw [HF6.out, e]
      exact J5.out
  case rest =>
  obtain ⟨hk1, hk2⟩ := hcut
  obtain ⟨v6, rfl⟩ : ∃ x : World, x = wc := ⟨_, rfl⟩
  have J6 := Lib.hid (And.intro hk1 hk2)
  clear hk1 hk2
  obtain ⟨f7, hf7⟩ : ∃ x, x = sF7 m f6 := ⟨_, rfl⟩
  have HF7 := Lib.hid hf7
  clear hf7
  go_upto_if 119 with fail
  go_cut [] (fun wx => row wx nb = some (nodeC 1 f7 kv bv, 92) ∧ Keep W0 wx (· = nb))
  case first =>
    have cn : v6.cell? ⟨nb, 11, none⟩ = some (.int .u32 f6.vers) := cell_row J6.out.1
    have cf : v6.frozen? ⟨nb, 11, none⟩ = false := frozen_row J6.out.1
    cases hb1 : (bits .and .u8 m 64 != 0) with
    | true =>
      go_wp2_with fail
      go_meet
      refine ⟨?_, J6.out.2.thenCell _ _ (fun _ => rfl)⟩
      rw [row_setCell J6.out.1, HF7.out]
      have e : sF7 m f6 = { f6 with vers := (f6.vers + 1) % 4294967296 } := if_pos hb1
      rw [e]
      rfl
    | false =>
      go_wp2_with fail
      go_meet
      have e : sF7 m f6 = f6 := if_neg (by unfold sB; rw [hb1]; simp)
      rw [HF7.out, e]
      exact J6.out
  case rest =>
  obtain ⟨hk1, hk2⟩ := hcut
  obtain ⟨v7, rfl⟩ : ∃ x : World, x = wc := ⟨_, rfl⟩
  have J7 := Lib.hid (And.intro hk1 hk2)
  clear hk1 hk2
  go_wp2_with fail
  go_ret
  have e : sF m g f = f7 := by
    unfold sF
    rw [← HF1.out, ← HF2.out, ← HF3.out, ← HF4.out, ← HF5.out, ← HF6.out, ← HF7.out]
  rw [e]
  exact ⟨rfl, J7.out.1, (HW.out.1.mono (S' := (· = nb)) (fun _ _ h => h.elim)).trans J7.out.2 (fun _ _ h => h)⟩
end Go.Proofs.YtfbcdhcgmncklaaDoor
