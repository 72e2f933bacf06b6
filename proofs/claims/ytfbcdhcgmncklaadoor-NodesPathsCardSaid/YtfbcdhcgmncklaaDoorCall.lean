/- (*Store).call, walked. -/
import Derived.Test.YtfbcdhcgmncklaaDoorCallP
import Derived.Test.YtfbcdhcgmncklaaDoorMakes
namespace Go.Proofs.YtfbcdhcgmncklaaDoor
open Go Go.RowKit Go.Nd Go.Maps Go.MuLone Go.RwLone
set_option maxRecDepth 100000

section
variable {w : World} {s nb cb m : Nat} {most next : Int} {mb : Nat} {ov kv bv : Value} {e : Inf} {C : Value → Option Value} {nm : ByteArray} {B : Nat}

/-- What the walks of call begin with. -/
structure CallAt (w : World) (s nb cb m mb : Nat) (most next : Int) (ov kv bv : Value) (e : Inf) (C : Value → Option Value) (nm : ByteArray) (B : Nat) : Prop where
  srow : row w s = some (storeC 1 (-1073741824) most next mb ov cb, 101)
  nrow : row w nb = some (nodeC 0 e kv bv, 92)
  cmap : MapIs Tryd.prog 121 w cb m C
  gb : GB B w
  p0 : 0 ≤ e.path
  p1 : e.path < 18446744073709551616
  q0 : 0 ≤ e.parent
  q1 : e.parent < 18446744073709551616
  nm : nm.size ≤ 4611686018427387904
  old : e.name.size ≤ maxLen

set_option maxHeartbeats 4000000 in
theorem call_root (h : CallAt w s nb cb m mb most next ov kv bv e C nm B) (he : e.path = 1) :
    Calls Tryd.prog 67 #[.pointer (some ⟨s, 0, none⟩), .pointer (some ⟨nb, 0, none⟩), .string nm] w fun x w' => x = .returned (.tuple #[.int .u64 0, .int .i64 81]) ∧ Keep w w' (fun _ => False) := by
  have c2 : w.cell? ⟨nb, 2, none⟩ = some (.int .u64 e.path) := cell_row h.nrow
  have c3 : w.cell? ⟨nb, 3, none⟩ = some (.int .u64 e.parent) := cell_row h.nrow
  have c10 : w.cell? ⟨s, 10, none⟩ = some (.map (some cb)) := cell_row h.srow
  obtain ⟨kl, hkl⟩ := keyK h.q0 h.q1 (show nm.size ≤ maxLen by have := h.nm; unfold maxLen; omega)
  have hlk := fun (o : Obj) k => ((h.cmap.keep (Keep.alloc w o (fun _ => False)) (fun h => h)).keep (Keep.drewN (w.alloc o) k (fun _ => False)) (fun h => h)).look true lawK Tryd.underlying94 (Tryd.zeroValue30 _) hkl
  have hsl := row_lt h.srow
  have hnl := row_lt h.nrow
  have H := Lib.hid h
  have HK := Lib.hid hkl
  obtain ⟨ko, hko⟩ := keyK h.q0 h.q1 h.old
  have HKO := Lib.hid hko
  clear hko
  rw [he] at c2
  clear he
  clear h hkl
  go_enter Tryd.func67, Tryd.ntmps67
  go_wp2_with fail
  go_quiet (fail)
  generalize hV : World.drewN _ _ = W1
  have kV : Keep w W1 (fun _ => False) := by rw [← hV]; exact (Keep.alloc _ _ _).trans (Keep.drewN _ _ _) (fun _ _ h => h)
  have rk1 : row W1 w.heap.size = some (#[.int .u64 e.parent, .string nm], 121) := by rw [← hV]; exact row_alloc_at _ _ _ _ rfl
  have H1 := Lib.hid (And.intro kV rk1)
  clear hV kV rk1 hlk c2 c3 c10
  go_wp2_with fail
  go_ret2
  exact ⟨rfl, H1.out.1⟩

set_option maxHeartbeats 4000000 in
theorem call_name (h : CallAt w s nb cb m mb most next ov kv bv e C nm B) (he : e.path ≠ 1) (hn : nameOk nm = false) :
    Calls Tryd.prog 67 #[.pointer (some ⟨s, 0, none⟩), .pointer (some ⟨nb, 0, none⟩), .string nm] w fun x w' => x = .returned (.tuple #[.int .u64 0, .int .i64 50]) ∧ Keep w w' (fun _ => False) := by
  have c2 : w.cell? ⟨nb, 2, none⟩ = some (.int .u64 e.path) := cell_row h.nrow
  have c3 : w.cell? ⟨nb, 3, none⟩ = some (.int .u64 e.parent) := cell_row h.nrow
  have c10 : w.cell? ⟨s, 10, none⟩ = some (.map (some cb)) := cell_row h.srow
  obtain ⟨kl, hkl⟩ := keyK h.q0 h.q1 (show nm.size ≤ maxLen by have := h.nm; unfold maxLen; omega)
  have hlk := fun (o : Obj) k => ((h.cmap.keep (Keep.alloc w o (fun _ => False)) (fun h => h)).keep (Keep.drewN (w.alloc o) k (fun _ => False)) (fun h => h)).look true lawK Tryd.underlying94 (Tryd.zeroValue30 _) hkl
  have hsl := row_lt h.srow
  have hnl := row_lt h.nrow
  have H := Lib.hid h
  have HK := Lib.hid hkl
  obtain ⟨ko, hko⟩ := keyK h.q0 h.q1 h.old
  have HKO := Lib.hid hko
  clear hko
  have h1 : (e.path == 1) = false := by rw [beq_eq_false_iff_ne]; exact he
  clear he
  have HN := Lib.hid hn
  clear hn
  clear h hkl
  go_enter Tryd.func67, Tryd.ntmps67
  go_wp2_with fail
  go_quiet (fail)
  generalize hV : World.drewN _ _ = W1
  have kV : Keep w W1 (fun _ => False) := by rw [← hV]; exact (Keep.alloc _ _ _).trans (Keep.drewN _ _ _) (fun _ _ h => h)
  have rk1 : row W1 w.heap.size = some (#[.int .u64 e.parent, .string nm], 121) := by rw [← hV]; exact row_alloc_at _ _ _ _ rfl
  have H1 := Lib.hid (And.intro kV rk1)
  clear hV kV rk1 hlk c2 c3 c10
  go_wp2_with fail
  refine (check_any nm W1 B (H.out.gb.keep H1.out.1 (fun _ h => h.elim)) (by have := H.out.nm; omega)).mono ?_
  rintro x W2 ⟨rfl, hb⟩
  have hx : nameErr nm = 50 := by unfold nameErr; rw [HN.out]; rfl
  have k2 : Keep w W2 (fun _ => False) := H1.out.1.trans (Keep.of_below hb _) (fun _ _ h => h)
  have H2 := Lib.hid k2
  have HR2 := Lib.hid ((Keep.of_below hb (fun _ => False)).row H1.out.2 (fun h => h))
  rw [hx]
  clear hx hb k2
  go_wp2_with fail
  go_ret2
  exact ⟨rfl, H2.out⟩

set_option maxHeartbeats 4000000 in
theorem call_twice (h : CallAt w s nb cb m mb most next ov kv bv e C nm B) {q : Int} (he : e.path ≠ 1) (hn : nameOk nm = true) (hC : C (.agg #[.int .u64 e.parent, .string nm]) = some (.int .u64 q)) (hq : q ≠ e.path) :
    Calls Tryd.prog 67 #[.pointer (some ⟨s, 0, none⟩), .pointer (some ⟨nb, 0, none⟩), .string nm] w fun x w' => x = .returned (.tuple #[.int .u64 0, .int .i64 82]) ∧ Keep w w' (fun _ => False) := by
  have c2 : w.cell? ⟨nb, 2, none⟩ = some (.int .u64 e.path) := cell_row h.nrow
  have c3 : w.cell? ⟨nb, 3, none⟩ = some (.int .u64 e.parent) := cell_row h.nrow
  have c10 : w.cell? ⟨s, 10, none⟩ = some (.map (some cb)) := cell_row h.srow
  obtain ⟨kl, hkl⟩ := keyK h.q0 h.q1 (show nm.size ≤ maxLen by have := h.nm; unfold maxLen; omega)
  have hlk := fun (o : Obj) k => ((h.cmap.keep (Keep.alloc w o (fun _ => False)) (fun h => h)).keep (Keep.drewN (w.alloc o) k (fun _ => False)) (fun h => h)).look true lawK Tryd.underlying94 (Tryd.zeroValue30 _) hkl
  have hsl := row_lt h.srow
  have hnl := row_lt h.nrow
  have H := Lib.hid h
  have HK := Lib.hid hkl
  obtain ⟨ko, hko⟩ := keyK h.q0 h.q1 h.old
  have HKO := Lib.hid hko
  clear hko
  have h1 : (e.path == 1) = false := by rw [beq_eq_false_iff_ne]; exact he
  clear he
  have HN := Lib.hid hn
  clear hn
  rw [hC] at hlk
  simp only [Option.getD_some, Option.isSome_some, if_true] at hlk
  have hq1 : (q != e.path) = true := by simpa using hq
  clear hC hq
  clear h hkl
  go_enter Tryd.func67, Tryd.ntmps67
  go_wp2_with fail
  go_quiet (fail)
  generalize hV : World.drewN _ _ = W1
  have kV : Keep w W1 (fun _ => False) := by rw [← hV]; exact (Keep.alloc _ _ _).trans (Keep.drewN _ _ _) (fun _ _ h => h)
  have rk1 : row W1 w.heap.size = some (#[.int .u64 e.parent, .string nm], 121) := by rw [← hV]; exact row_alloc_at _ _ _ _ rfl
  have H1 := Lib.hid (And.intro kV rk1)
  clear hV kV rk1 hlk c2 c3 c10
  go_wp2_with fail
  refine (check_any nm W1 B (H.out.gb.keep H1.out.1 (fun _ h => h.elim)) (by have := H.out.nm; omega)).mono ?_
  rintro x W2 ⟨rfl, hb⟩
  have hx : nameErr nm = 0 := by unfold nameErr; rw [HN.out]; rfl
  have k2 : Keep w W2 (fun _ => False) := H1.out.1.trans (Keep.of_below hb _) (fun _ _ h => h)
  have H2 := Lib.hid k2
  have HR2 := Lib.hid ((Keep.of_below hb (fun _ => False)).row H1.out.2 (fun h => h))
  rw [hx]
  clear hx hb k2
  go_wp2_with fail
  go_ret2
  exact ⟨rfl, H2.out⟩

set_option maxHeartbeats 4000000 in
theorem call_new (h : CallAt w s nb cb m mb most next ov kv bv e C nm B) {C1 C2 : Value → Option Value} (he : e.path ≠ 1) (hn : nameOk nm = true) (hC : C (.agg #[.int .u64 e.parent, .string nm]) = none)
    (hC1 : C1 (.agg #[.int .u64 e.parent, .string e.name]) = none) (hC2 : ∀ x, x ≠ .agg #[.int .u64 e.parent, .string e.name] → C1 x = C x) (hD1 : C2 (.agg #[.int .u64 e.parent, .string nm]) = some (.int .u64 e.path)) (hD2 : ∀ x, x ≠ .agg #[.int .u64 e.parent, .string nm] → C2 x = C1 x)
    (hcs : cb ≠ s) (hcn : cb ≠ nb) (hsn : s ≠ nb) :
    Calls Tryd.prog 67 #[.pointer (some ⟨s, 0, none⟩), .pointer (some ⟨nb, 0, none⟩), .string nm] w fun x w' => x = .returned (.tuple #[.int .u64 e.path, .int .i64 0]) ∧ ∃ m', row w' s = some (storeC 1 (-1073741824) most next mb ov cb, 101) ∧ row w' nb = some (nodeC 0 { e with name := nm } kv bv, 92) ∧ MapIs Tryd.prog 121 w' cb m' C2 ∧ Keep w w' (fun b => b = cb ∨ b = nb) := by
  have c2 : w.cell? ⟨nb, 2, none⟩ = some (.int .u64 e.path) := cell_row h.nrow
  have c3 : w.cell? ⟨nb, 3, none⟩ = some (.int .u64 e.parent) := cell_row h.nrow
  have c10 : w.cell? ⟨s, 10, none⟩ = some (.map (some cb)) := cell_row h.srow
  obtain ⟨kl, hkl⟩ := keyK h.q0 h.q1 (show nm.size ≤ maxLen by have := h.nm; unfold maxLen; omega)
  have hlk := fun (o : Obj) k => ((h.cmap.keep (Keep.alloc w o (fun _ => False)) (fun h => h)).keep (Keep.drewN (w.alloc o) k (fun _ => False)) (fun h => h)).look true lawK Tryd.underlying94 (Tryd.zeroValue30 _) hkl
  have hsl := row_lt h.srow
  have hnl := row_lt h.nrow
  have H := Lib.hid h
  have HK := Lib.hid hkl
  obtain ⟨ko, hko⟩ := keyK h.q0 h.q1 h.old
  have HKO := Lib.hid hko
  clear hko
  have h1 : (e.path == 1) = false := by rw [beq_eq_false_iff_ne]; exact he
  clear he
  have HN := Lib.hid hn
  clear hn
  rw [hC] at hlk
  simp only [Option.getD_none, Option.isSome_none, if_true] at hlk
  have HC := Lib.hid (And.intro hC1 (And.intro hC2 (And.intro hD1 hD2)))
  clear hC hC1 hC2 hD1 hD2
  clear h hkl
  go_enter Tryd.func67, Tryd.ntmps67
  go_wp2_with fail
  go_quiet (fail)
  generalize hV : World.drewN _ _ = W1
  have kV : Keep w W1 (fun _ => False) := by rw [← hV]; exact (Keep.alloc _ _ _).trans (Keep.drewN _ _ _) (fun _ _ h => h)
  have rk1 : row W1 w.heap.size = some (#[.int .u64 e.parent, .string nm], 121) := by rw [← hV]; exact row_alloc_at _ _ _ _ rfl
  have H1 := Lib.hid (And.intro kV rk1)
  clear hV kV rk1 hlk c2 c3 c10
  go_wp2_with fail
  refine (check_any nm W1 B (H.out.gb.keep H1.out.1 (fun _ h => h.elim)) (by have := H.out.nm; omega)).mono ?_
  rintro x W2 ⟨rfl, hb⟩
  have hx : nameErr nm = 0 := by unfold nameErr; rw [HN.out]; rfl
  have k2 : Keep w W2 (fun _ => False) := H1.out.1.trans (Keep.of_below hb _) (fun _ _ h => h)
  have H2 := Lib.hid k2
  have HR2 := Lib.hid ((Keep.of_below hb (fun _ => False)).row H1.out.2 (fun h => h))
  rw [hx]
  clear hx hb k2
  have s10 : W2.cell? ⟨s, 10, none⟩ = some (.map (some cb)) := cell_row (H2.out.row H.out.srow (fun h => h))
  have n3 : W2.cell? ⟨nb, 3, none⟩ = some (.int .u64 e.parent) := cell_row (H2.out.row H.out.nrow (fun h => h))
  have n4 : W2.cell? ⟨nb, 4, none⟩ = some (.string e.name) := cell_row (H2.out.row H.out.nrow (fun h => h))
  go_wp2_with fail
  go_region_held3 (fun w' => w'.cell? ⟨s, 10, none⟩ = some (.map (some cb)) ∧ w'.cell? ⟨nb, 3, none⟩ = some (.int .u64 e.parent) ∧ w'.cell? ⟨nb, 4, none⟩ = some (.string e.name))
    (first | go_keep | exact ⟨kk3.cell s10 (Ne.symm hcs), kk3.cell n3 (Ne.symm hcn), kk3.cell n4 (Ne.symm hcn)⟩)
    (first
      | ((with_reducible apply wpList_buildS (built_key _ _)); · rfl)
      | (refine upon_dropM (n := m) (f := C) (f' := C1) ?_ lawK Tryd.underlying94 HKO.out HC.out.1 HC.out.2.1 ?_
         · exact (H.out.cmap.keep H2.out (fun h => h)).keep (Keep.drew W2 (fun _ => False)) (fun h => h)
         intro w3 hm3 hk3 hz3
         have kk3 : Keep W2 w3 (· = cb) := hk3.after (fun _ _ h => h) (Keep.drew W2 (· = cb))))
  have kk3 : Keep W2 w3 (· = cb) := hk3.after (fun _ _ h => h) (Keep.drew W2 (· = cb))
  obtain ⟨m1, hm1⟩ : ∃ m1, MapIs Tryd.prog 121 w3 cb m1 C1 := ⟨_, hm3⟩
  have hcl := H.out.cmap.lt
  have hkc : w.heap.size ≠ cb := by omega
  have rs3 := kk3.row (H2.out.row H.out.srow (fun h => h)) (Ne.symm hcs)
  have rn3 := kk3.row (H2.out.row H.out.nrow (fun h => h)) (Ne.symm hcn)
  have rk3 := kk3.row HR2.out hkc
  have H3 := Lib.hid (And.intro (H2.out.mono (S' := (· = cb)) (fun _ _ h => h.elim) |>.trans kk3 (fun _ _ h => h)) (And.intro rs3 (And.intro rn3 (And.intro rk3 hm1))))
  clear s10 n3 n4 hm3 hm1 hk3 hz3 kk3 rs3 rn3 rk3
  have s10 : w3.cell? ⟨s, 10, none⟩ = some (.map (some cb)) := cell_row H3.out.2.1
  have k0 : w3.cell? ⟨w.heap.size, 0, none⟩ = some (.int .u64 e.parent) := cell_row H3.out.2.2.2.1
  have k1 : w3.cell? ⟨w.heap.size, 1, none⟩ = some (.string nm) := cell_row H3.out.2.2.2.1
  go_wp2_with fail
  go_region_held3 (fun w' => w'.cell? ⟨s, 10, none⟩ = some (.map (some cb)) ∧ w'.cell? ⟨w.heap.size, 0, none⟩ = some (.int .u64 e.parent) ∧ w'.cell? ⟨w.heap.size, 1, none⟩ = some (.string nm))
    (first | go_keep | exact ⟨kk4.cell s10 (Ne.symm hcs), kk4.cell k0 hkc, kk4.cell k1 hkc⟩)
    (first
      | (refine upon_storeM (n := m1) (f := C1) (f' := C2) ?_ lawK Tryd.underlying94 HK.out HC.out.2.2.1 HC.out.2.2.2 ?_
         · exact H3.out.2.2.2.2.keep (Keep.drew w3 (fun _ => False)) (fun h => h)
         intro w4 hm4 hk4 hz4
         have kk4 : Keep w3 w4 (· = cb) := hk4.after (fun _ _ h => h) (Keep.drew w3 (· = cb))))
  have kk4 : Keep w3 w4 (· = cb) := hk4.after (fun _ _ h => h) (Keep.drew w3 (· = cb))
  have rs4 := kk4.row H3.out.2.1 (Ne.symm hcs)
  have rn4 := kk4.row H3.out.2.2.1 (Ne.symm hcn)
  have n4 : w4.cell? ⟨nb, 4, none⟩ = some (.string e.name) := cell_row rn4
  have z4 : w4.frozen? ⟨nb, 4, none⟩ = false := frozen_row rn4
  have H4 := Lib.hid (And.intro (H3.out.1.trans kk4 (fun _ _ h => h)) (And.intro rs4 (And.intro rn4 hm4)))
  clear s10 k0 k1 hm4 hk4 hz4 kk4 rs4 rn4
  go_wp2_with fail
  go_ret2
  obtain ⟨j1, j2, j3, j4⟩ := H4.out
  refine ⟨rfl, _, ?_, ?_, j4.keep (Keep.setCell w4 ⟨nb, 4, none⟩ (.string nm) (· = nb) (fun _ => rfl)) hcn, (j1.mono (fun _ _ h => .inl h)).thenCell _ _ (fun _ => .inr rfl)⟩
  · rw [row_setCell_ne _ _ _ _ hsn]; exact j2
  · rw [row_setCell j3]; rfl

set_option maxHeartbeats 4000000 in
theorem call_same (h : CallAt w s nb cb m mb most next ov kv bv e C nm B) {C1 C2 : Value → Option Value} (he : e.path ≠ 1) (hn : nameOk nm = true) (hC : C (.agg #[.int .u64 e.parent, .string nm]) = some (.int .u64 e.path))
    (hC1 : C1 (.agg #[.int .u64 e.parent, .string e.name]) = none) (hC2 : ∀ x, x ≠ .agg #[.int .u64 e.parent, .string e.name] → C1 x = C x) (hD1 : C2 (.agg #[.int .u64 e.parent, .string nm]) = some (.int .u64 e.path)) (hD2 : ∀ x, x ≠ .agg #[.int .u64 e.parent, .string nm] → C2 x = C1 x)
    (hcs : cb ≠ s) (hcn : cb ≠ nb) (hsn : s ≠ nb) :
    Calls Tryd.prog 67 #[.pointer (some ⟨s, 0, none⟩), .pointer (some ⟨nb, 0, none⟩), .string nm] w fun x w' => x = .returned (.tuple #[.int .u64 e.path, .int .i64 0]) ∧ ∃ m', row w' s = some (storeC 1 (-1073741824) most next mb ov cb, 101) ∧ row w' nb = some (nodeC 0 { e with name := nm } kv bv, 92) ∧ MapIs Tryd.prog 121 w' cb m' C2 ∧ Keep w w' (fun b => b = cb ∨ b = nb) := by
  have c2 : w.cell? ⟨nb, 2, none⟩ = some (.int .u64 e.path) := cell_row h.nrow
  have c3 : w.cell? ⟨nb, 3, none⟩ = some (.int .u64 e.parent) := cell_row h.nrow
  have c10 : w.cell? ⟨s, 10, none⟩ = some (.map (some cb)) := cell_row h.srow
  obtain ⟨kl, hkl⟩ := keyK h.q0 h.q1 (show nm.size ≤ maxLen by have := h.nm; unfold maxLen; omega)
  have hlk := fun (o : Obj) k => ((h.cmap.keep (Keep.alloc w o (fun _ => False)) (fun h => h)).keep (Keep.drewN (w.alloc o) k (fun _ => False)) (fun h => h)).look true lawK Tryd.underlying94 (Tryd.zeroValue30 _) hkl
  have hsl := row_lt h.srow
  have hnl := row_lt h.nrow
  have H := Lib.hid h
  have HK := Lib.hid hkl
  obtain ⟨ko, hko⟩ := keyK h.q0 h.q1 h.old
  have HKO := Lib.hid hko
  clear hko
  have h1 : (e.path == 1) = false := by rw [beq_eq_false_iff_ne]; exact he
  clear he
  have HN := Lib.hid hn
  clear hn
  rw [hC] at hlk
  simp only [Option.getD_some, Option.isSome_some, if_true] at hlk
  have HC := Lib.hid (And.intro hC1 (And.intro hC2 (And.intro hD1 hD2)))
  clear hC hC1 hC2 hD1 hD2
  clear h hkl
  go_enter Tryd.func67, Tryd.ntmps67
  go_wp2_with fail
  go_quiet (fail)
  generalize hV : World.drewN _ _ = W1
  have kV : Keep w W1 (fun _ => False) := by rw [← hV]; exact (Keep.alloc _ _ _).trans (Keep.drewN _ _ _) (fun _ _ h => h)
  have rk1 : row W1 w.heap.size = some (#[.int .u64 e.parent, .string nm], 121) := by rw [← hV]; exact row_alloc_at _ _ _ _ rfl
  have H1 := Lib.hid (And.intro kV rk1)
  clear hV kV rk1 hlk c2 c3 c10
  go_wp2_with fail
  refine (check_any nm W1 B (H.out.gb.keep H1.out.1 (fun _ h => h.elim)) (by have := H.out.nm; omega)).mono ?_
  rintro x W2 ⟨rfl, hb⟩
  have hx : nameErr nm = 0 := by unfold nameErr; rw [HN.out]; rfl
  have k2 : Keep w W2 (fun _ => False) := H1.out.1.trans (Keep.of_below hb _) (fun _ _ h => h)
  have H2 := Lib.hid k2
  have HR2 := Lib.hid ((Keep.of_below hb (fun _ => False)).row H1.out.2 (fun h => h))
  rw [hx]
  clear hx hb k2
  have s10 : W2.cell? ⟨s, 10, none⟩ = some (.map (some cb)) := cell_row (H2.out.row H.out.srow (fun h => h))
  have n3 : W2.cell? ⟨nb, 3, none⟩ = some (.int .u64 e.parent) := cell_row (H2.out.row H.out.nrow (fun h => h))
  have n4 : W2.cell? ⟨nb, 4, none⟩ = some (.string e.name) := cell_row (H2.out.row H.out.nrow (fun h => h))
  go_wp2_with fail
  go_region_held3 (fun w' => w'.cell? ⟨s, 10, none⟩ = some (.map (some cb)) ∧ w'.cell? ⟨nb, 3, none⟩ = some (.int .u64 e.parent) ∧ w'.cell? ⟨nb, 4, none⟩ = some (.string e.name))
    (first | go_keep | exact ⟨kk3.cell s10 (Ne.symm hcs), kk3.cell n3 (Ne.symm hcn), kk3.cell n4 (Ne.symm hcn)⟩)
    (first
      | ((with_reducible apply wpList_buildS (built_key _ _)); · rfl)
      | (refine upon_dropM (n := m) (f := C) (f' := C1) ?_ lawK Tryd.underlying94 HKO.out HC.out.1 HC.out.2.1 ?_
         · exact (H.out.cmap.keep H2.out (fun h => h)).keep (Keep.drew W2 (fun _ => False)) (fun h => h)
         intro w3 hm3 hk3 hz3
         have kk3 : Keep W2 w3 (· = cb) := hk3.after (fun _ _ h => h) (Keep.drew W2 (· = cb))))
  have kk3 : Keep W2 w3 (· = cb) := hk3.after (fun _ _ h => h) (Keep.drew W2 (· = cb))
  obtain ⟨m1, hm1⟩ : ∃ m1, MapIs Tryd.prog 121 w3 cb m1 C1 := ⟨_, hm3⟩
  have hcl := H.out.cmap.lt
  have hkc : w.heap.size ≠ cb := by omega
  have rs3 := kk3.row (H2.out.row H.out.srow (fun h => h)) (Ne.symm hcs)
  have rn3 := kk3.row (H2.out.row H.out.nrow (fun h => h)) (Ne.symm hcn)
  have rk3 := kk3.row HR2.out hkc
  have H3 := Lib.hid (And.intro (H2.out.mono (S' := (· = cb)) (fun _ _ h => h.elim) |>.trans kk3 (fun _ _ h => h)) (And.intro rs3 (And.intro rn3 (And.intro rk3 hm1))))
  clear s10 n3 n4 hm3 hm1 hk3 hz3 kk3 rs3 rn3 rk3
  have s10 : w3.cell? ⟨s, 10, none⟩ = some (.map (some cb)) := cell_row H3.out.2.1
  have k0 : w3.cell? ⟨w.heap.size, 0, none⟩ = some (.int .u64 e.parent) := cell_row H3.out.2.2.2.1
  have k1 : w3.cell? ⟨w.heap.size, 1, none⟩ = some (.string nm) := cell_row H3.out.2.2.2.1
  go_wp2_with fail
  go_region_held3 (fun w' => w'.cell? ⟨s, 10, none⟩ = some (.map (some cb)) ∧ w'.cell? ⟨w.heap.size, 0, none⟩ = some (.int .u64 e.parent) ∧ w'.cell? ⟨w.heap.size, 1, none⟩ = some (.string nm))
    (first | go_keep | exact ⟨kk4.cell s10 (Ne.symm hcs), kk4.cell k0 hkc, kk4.cell k1 hkc⟩)
    (first
      | (refine upon_storeM (n := m1) (f := C1) (f' := C2) ?_ lawK Tryd.underlying94 HK.out HC.out.2.2.1 HC.out.2.2.2 ?_
         · exact H3.out.2.2.2.2.keep (Keep.drew w3 (fun _ => False)) (fun h => h)
         intro w4 hm4 hk4 hz4
         have kk4 : Keep w3 w4 (· = cb) := hk4.after (fun _ _ h => h) (Keep.drew w3 (· = cb))))
  have kk4 : Keep w3 w4 (· = cb) := hk4.after (fun _ _ h => h) (Keep.drew w3 (· = cb))
  have rs4 := kk4.row H3.out.2.1 (Ne.symm hcs)
  have rn4 := kk4.row H3.out.2.2.1 (Ne.symm hcn)
  have n4 : w4.cell? ⟨nb, 4, none⟩ = some (.string e.name) := cell_row rn4
  have z4 : w4.frozen? ⟨nb, 4, none⟩ = false := frozen_row rn4
  have H4 := Lib.hid (And.intro (H3.out.1.trans kk4 (fun _ _ h => h)) (And.intro rs4 (And.intro rn4 hm4)))
  clear s10 k0 k1 hm4 hk4 hz4 kk4 rs4 rn4
  go_wp2_with fail
  go_ret2
  obtain ⟨j1, j2, j3, j4⟩ := H4.out
  refine ⟨rfl, _, ?_, ?_, j4.keep (Keep.setCell w4 ⟨nb, 4, none⟩ (.string nm) (· = nb) (fun _ => rfl)) hcn, (j1.mono (fun _ _ h => .inl h)).thenCell _ _ (fun _ => .inr rfl)⟩
  · rw [row_setCell_ne _ _ _ _ hsn]; exact j2
  · rw [row_setCell j3]; rfl

end
end Go.Proofs.YtfbcdhcgmncklaaDoor
