/- (*Store).makes, where it refuses. -/
import Derived.Test.YtfbcdhcgmncklaaDoorMakes
namespace Go.Proofs.YtfbcdhcgmncklaaDoor
open Go Go.RowKit Go.Nd Go.Maps Go.MuLone Go.RwLone
set_option maxRecDepth 100000

set_option maxHeartbeats 8000000 in
theorem makes_kind {w : World} {s mb cb nb n m B : Nat} {F C : Value → Option Value} {most next : Int} {ov kv bv : Value} {d f : Inf} (hB : GB B w)
    (hrow : row w s = some (storeC 1 (-1073741824) most next mb ov cb, 101)) (hn : row w nb = some (nodeC 0 d kv bv, 92))
    (hm : MapIs Tryd.prog 30 w mb n F) (hc : MapIs Tryd.prog 121 w cb m C)
    (d0 : 0 ≤ d.path) (d1 : d.path < 18446744073709551616) (fn : f.name.size ≤ 4611686018427387904) (_su : f.uid.size ≤ 4611686018427387904) (_sg : f.gid.size ≤ 4611686018427387904) (_sm : f.muid.size ≤ 4611686018427387904)
    (h1 : isDir d.mode = false) :
    Calls Tryd.prog 65 #[.pointer (some ⟨s, 0, none⟩), .pointer (some ⟨nb, 0, none⟩), .agg f.cells.toArray] w fun e w' =>
      e = .returned (.tuple #[.int .u64 0, .int .i64 81]) ∧ Keep w w' (fun _ => False) := by
  simp only [Inf.cells]
  have hs := row_lt hrow
  have hnl := row_lt hn
  have c2 : w.cell? ⟨nb, 2, none⟩ = some (.int .u64 d.path) := cell_row hn
  have c5 : w.cell? ⟨nb, 5, none⟩ = some (.int .u32 d.mode) := cell_row hn
  have c10 : w.cell? ⟨s, 10, none⟩ = some (.map (some cb)) := cell_row hrow
  have HR := Lib.hid hrow
  have HN := Lib.hid hn
  have HM := Lib.hid hm
  have HC := Lib.hid hc
  clear hrow hn hm hc
  go_enter Tryd.func65, Tryd.ntmps65
  go_wp2_with fail
  go_region_held3 (fun w' => w'.cell? ⟨nb, 2, none⟩ = some (.int .u64 d.path) ∧ w'.cell? ⟨w.heap.size, 2, none⟩ = some (.string f.name)) (first | go_keep) (first | fail)
  generalize hW : ((w.alloc (.cells #[.int .u64 f.path, .int .u64 f.parent, .string f.name, .int .u32 f.mode, .string f.uid, .string f.gid, .string f.muid, .int .u32 f.atime, .int .u32 f.mtime, .int .u32 f.vers, .int .u64 f.len, .int .i64 f.opens, .int .i64 f.kids] 41)).alloc (.cells #[.int .u64 d.path, .string f.name] 121)).drew = W1
  have kW : Keep w W1 (fun _ => False) := by rw [← hW]; exact ((Keep.alloc _ _ _).thenAlloc _).thenDrew
  have zW : W1.heap.size = w.heap.size + 2 := by rw [← hW]; simp [World.drew]
  have rS := kW.row HR.out (fun h => h)
  have rN := kW.row HN.out (fun h => h)
  have rF : row W1 w.heap.size = some (f.cells.toArray, 41) := by
    rw [← hW, row_drew, row_alloc_past _ _ _ (by simp)]; exact row_alloc_at _ _ _ _ rfl
  have rK : row W1 (w.heap.size + 1) = some (#[.int .u64 d.path, .string f.name], 121) := by
    rw [← hW, row_drew]; exact row_alloc_at _ _ _ _ (by simp)
  have mM := HM.out.keep kW (fun h => h)
  have mC := HC.out.keep kW (fun h => h)
  obtain ⟨kl, hkl⟩ := keyK (s := f.name) d0 d1 (by unfold maxLen; omega)
  have hlk := fun k => (mC.keep (Keep.drewN W1 k (fun _ => False)) (fun h => h)).look true lawK Tryd.underlying94 (zeroU _) hkl
  generalize hcv : (C (.agg #[.int .u64 d.path, .string f.name])) = cv at hlk
  clear hcv
  have a10 : W1.cell? ⟨s, 10, none⟩ = some (.map (some cb)) := cell_row rS
  have k0 : W1.cell? ⟨w.heap.size + 1, 0, none⟩ = some (.int .u64 d.path) := cell_row rK
  have k1 : W1.cell? ⟨w.heap.size + 1, 1, none⟩ = some (.string f.name) := cell_row rK
  have HS := Lib.hid rS
  have HN1 := Lib.hid rN
  have HF := Lib.hid rF
  have HK := Lib.hid rK
  have HM1 := Lib.hid mM
  have HC1 := Lib.hid mC
  have HW := Lib.hid kW
  have HZ := Lib.hid zW
  clear hW kW zW rS rN rF rK mM mC c2 c5 c10
  go_wp2_with fail
  go_quiet (fail)
  clear hlk a10 k0 k1
  generalize hV : World.drewN W1 _ = W2
  have kV : Keep W1 W2 (fun _ => False) := by rw [← hV]; exact Keep.drewN _ _ _
  have zV : W2.heap.size = w.heap.size + 2 := by rw [← hV]; exact HZ.out
  clear hV
  obtain ⟨rS, rN, rF, rK⟩ : row W2 s = _ ∧ row W2 nb = _ ∧ row W2 w.heap.size = _ ∧ row W2 (w.heap.size + 1) = _ := ⟨kV.row HS.out (fun h => h), kV.row HN1.out (fun h => h), kV.row HF.out (fun h => h), kV.row HK.out (fun h => h)⟩
  have b5 : W2.cell? ⟨nb, 5, none⟩ = some (.int .u32 d.mode) := cell_row rN
  have f3 : W2.cell? ⟨w.heap.size, 3, none⟩ = some (.int .u32 f.mode) := cell_row rF
  have f4 : W2.cell? ⟨w.heap.size, 4, none⟩ = some (.string f.uid) := cell_row rF
  have t3 : (bits .and .u32 d.mode 2147483648 == 0) = true := by unfold isDir at h1; cases hb : (bits .and .u32 d.mode 2147483648 == 0) <;> simp_all
  have HV := Lib.hid kV
  have HS2 := Lib.hid rS
  have HN2 := Lib.hid rN
  have HF2 := Lib.hid rF
  have HK2 := Lib.hid rK
  have HZ2 := Lib.hid zV
  have hB2 : GB B W2 := (hB.keep HW.out (fun _ h => h.elim)).keep HV.out (fun _ h => h.elim)
  have HB2 := Lib.hid hB2
  clear kV rS rN rF rK zV hB hB2
  go_wp2_with fail
  refine bodyPost_ret (results_tmp2 rfl _ _ _) rfl ⟨rfl, ?_⟩
  exact (HW.out.trans HV.out (fun _ _ h => h))

set_option maxHeartbeats 8000000 in
theorem makes_mode {w : World} {s mb cb nb n m B : Nat} {F C : Value → Option Value} {most next : Int} {ov kv bv : Value} {d f : Inf} (hB : GB B w)
    (hrow : row w s = some (storeC 1 (-1073741824) most next mb ov cb, 101)) (hn : row w nb = some (nodeC 0 d kv bv, 92))
    (hm : MapIs Tryd.prog 30 w mb n F) (hc : MapIs Tryd.prog 121 w cb m C)
    (d0 : 0 ≤ d.path) (d1 : d.path < 18446744073709551616) (fn : f.name.size ≤ 4611686018427387904) (_su : f.uid.size ≤ 4611686018427387904) (_sg : f.gid.size ≤ 4611686018427387904) (_sm : f.muid.size ≤ 4611686018427387904)
    (h1 : isDir d.mode = true) (h2 : modeOk f.mode = false) :
    Calls Tryd.prog 65 #[.pointer (some ⟨s, 0, none⟩), .pointer (some ⟨nb, 0, none⟩), .agg f.cells.toArray] w fun e w' =>
      e = .returned (.tuple #[.int .u64 0, .int .i64 1]) ∧ Keep w w' (fun _ => False) := by
  simp only [Inf.cells]
  have hs := row_lt hrow
  have hnl := row_lt hn
  have c2 : w.cell? ⟨nb, 2, none⟩ = some (.int .u64 d.path) := cell_row hn
  have c5 : w.cell? ⟨nb, 5, none⟩ = some (.int .u32 d.mode) := cell_row hn
  have c10 : w.cell? ⟨s, 10, none⟩ = some (.map (some cb)) := cell_row hrow
  have HR := Lib.hid hrow
  have HN := Lib.hid hn
  have HM := Lib.hid hm
  have HC := Lib.hid hc
  clear hrow hn hm hc
  go_enter Tryd.func65, Tryd.ntmps65
  go_wp2_with fail
  go_region_held3 (fun w' => w'.cell? ⟨nb, 2, none⟩ = some (.int .u64 d.path) ∧ w'.cell? ⟨w.heap.size, 2, none⟩ = some (.string f.name)) (first | go_keep) (first | fail)
  generalize hW : ((w.alloc (.cells #[.int .u64 f.path, .int .u64 f.parent, .string f.name, .int .u32 f.mode, .string f.uid, .string f.gid, .string f.muid, .int .u32 f.atime, .int .u32 f.mtime, .int .u32 f.vers, .int .u64 f.len, .int .i64 f.opens, .int .i64 f.kids] 41)).alloc (.cells #[.int .u64 d.path, .string f.name] 121)).drew = W1
  have kW : Keep w W1 (fun _ => False) := by rw [← hW]; exact ((Keep.alloc _ _ _).thenAlloc _).thenDrew
  have zW : W1.heap.size = w.heap.size + 2 := by rw [← hW]; simp [World.drew]
  have rS := kW.row HR.out (fun h => h)
  have rN := kW.row HN.out (fun h => h)
  have rF : row W1 w.heap.size = some (f.cells.toArray, 41) := by
    rw [← hW, row_drew, row_alloc_past _ _ _ (by simp)]; exact row_alloc_at _ _ _ _ rfl
  have rK : row W1 (w.heap.size + 1) = some (#[.int .u64 d.path, .string f.name], 121) := by
    rw [← hW, row_drew]; exact row_alloc_at _ _ _ _ (by simp)
  have mM := HM.out.keep kW (fun h => h)
  have mC := HC.out.keep kW (fun h => h)
  obtain ⟨kl, hkl⟩ := keyK (s := f.name) d0 d1 (by unfold maxLen; omega)
  have hlk := fun k => (mC.keep (Keep.drewN W1 k (fun _ => False)) (fun h => h)).look true lawK Tryd.underlying94 (zeroU _) hkl
  generalize hcv : (C (.agg #[.int .u64 d.path, .string f.name])) = cv at hlk
  clear hcv
  have a10 : W1.cell? ⟨s, 10, none⟩ = some (.map (some cb)) := cell_row rS
  have k0 : W1.cell? ⟨w.heap.size + 1, 0, none⟩ = some (.int .u64 d.path) := cell_row rK
  have k1 : W1.cell? ⟨w.heap.size + 1, 1, none⟩ = some (.string f.name) := cell_row rK
  have HS := Lib.hid rS
  have HN1 := Lib.hid rN
  have HF := Lib.hid rF
  have HK := Lib.hid rK
  have HM1 := Lib.hid mM
  have HC1 := Lib.hid mC
  have HW := Lib.hid kW
  have HZ := Lib.hid zW
  clear hW kW zW rS rN rF rK mM mC c2 c5 c10
  go_wp2_with fail
  go_quiet (fail)
  clear hlk a10 k0 k1
  generalize hV : World.drewN W1 _ = W2
  have kV : Keep W1 W2 (fun _ => False) := by rw [← hV]; exact Keep.drewN _ _ _
  have zV : W2.heap.size = w.heap.size + 2 := by rw [← hV]; exact HZ.out
  clear hV
  obtain ⟨rS, rN, rF, rK⟩ : row W2 s = _ ∧ row W2 nb = _ ∧ row W2 w.heap.size = _ ∧ row W2 (w.heap.size + 1) = _ := ⟨kV.row HS.out (fun h => h), kV.row HN1.out (fun h => h), kV.row HF.out (fun h => h), kV.row HK.out (fun h => h)⟩
  have b5 : W2.cell? ⟨nb, 5, none⟩ = some (.int .u32 d.mode) := cell_row rN
  have f3 : W2.cell? ⟨w.heap.size, 3, none⟩ = some (.int .u32 f.mode) := cell_row rF
  have f4 : W2.cell? ⟨w.heap.size, 4, none⟩ = some (.string f.uid) := cell_row rF
  have t3 : (bits .and .u32 d.mode 2147483648 == 0) = false := by unfold isDir at h1; cases hb : (bits .and .u32 d.mode 2147483648 == 0) <;> simp_all
  have HV := Lib.hid kV
  have HS2 := Lib.hid rS
  have HN2 := Lib.hid rN
  have HF2 := Lib.hid rF
  have HK2 := Lib.hid rK
  have HZ2 := Lib.hid zV
  have hB2 : GB B W2 := (hB.keep HW.out (fun _ h => h.elim)).keep HV.out (fun _ h => h.elim)
  have HB2 := Lib.hid hB2
  clear kV rS rN rF rK zV hB hB2 h1
  go_wp2_with (go_at_call 70; refine (mayMode_any _ _).mono ?_; rintro e w' ⟨rfl, rfl⟩)
  refine bodyPost_ret (results_tmp2 rfl _ _ _) rfl ⟨rfl, ?_⟩
  exact (HW.out.trans HV.out (fun _ _ h => h))

set_option maxHeartbeats 8000000 in
theorem makes_uid {w : World} {s mb cb nb n m B : Nat} {F C : Value → Option Value} {most next : Int} {ov kv bv : Value} {d f : Inf} (hB : GB B w)
    (hrow : row w s = some (storeC 1 (-1073741824) most next mb ov cb, 101)) (hn : row w nb = some (nodeC 0 d kv bv, 92))
    (hm : MapIs Tryd.prog 30 w mb n F) (hc : MapIs Tryd.prog 121 w cb m C)
    (d0 : 0 ≤ d.path) (d1 : d.path < 18446744073709551616) (fn : f.name.size ≤ 4611686018427387904) (su : f.uid.size ≤ 4611686018427387904) (_sg : f.gid.size ≤ 4611686018427387904) (_sm : f.muid.size ≤ 4611686018427387904)
    (h1 : isDir d.mode = true) (h2 : modeOk f.mode = true) (h3 : userOk f.uid = false) :
    Calls Tryd.prog 65 #[.pointer (some ⟨s, 0, none⟩), .pointer (some ⟨nb, 0, none⟩), .agg f.cells.toArray] w fun e w' =>
      e = .returned (.tuple #[.int .u64 0, .int .i64 1]) ∧ Keep w w' (fun _ => False) := by
  simp only [Inf.cells]
  have hs := row_lt hrow
  have hnl := row_lt hn
  have c2 : w.cell? ⟨nb, 2, none⟩ = some (.int .u64 d.path) := cell_row hn
  have c5 : w.cell? ⟨nb, 5, none⟩ = some (.int .u32 d.mode) := cell_row hn
  have c10 : w.cell? ⟨s, 10, none⟩ = some (.map (some cb)) := cell_row hrow
  have HR := Lib.hid hrow
  have HN := Lib.hid hn
  have HM := Lib.hid hm
  have HC := Lib.hid hc
  clear hrow hn hm hc
  go_enter Tryd.func65, Tryd.ntmps65
  go_wp2_with fail
  go_region_held3 (fun w' => w'.cell? ⟨nb, 2, none⟩ = some (.int .u64 d.path) ∧ w'.cell? ⟨w.heap.size, 2, none⟩ = some (.string f.name)) (first | go_keep) (first | fail)
  generalize hW : ((w.alloc (.cells #[.int .u64 f.path, .int .u64 f.parent, .string f.name, .int .u32 f.mode, .string f.uid, .string f.gid, .string f.muid, .int .u32 f.atime, .int .u32 f.mtime, .int .u32 f.vers, .int .u64 f.len, .int .i64 f.opens, .int .i64 f.kids] 41)).alloc (.cells #[.int .u64 d.path, .string f.name] 121)).drew = W1
  have kW : Keep w W1 (fun _ => False) := by rw [← hW]; exact ((Keep.alloc _ _ _).thenAlloc _).thenDrew
  have zW : W1.heap.size = w.heap.size + 2 := by rw [← hW]; simp [World.drew]
  have rS := kW.row HR.out (fun h => h)
  have rN := kW.row HN.out (fun h => h)
  have rF : row W1 w.heap.size = some (f.cells.toArray, 41) := by
    rw [← hW, row_drew, row_alloc_past _ _ _ (by simp)]; exact row_alloc_at _ _ _ _ rfl
  have rK : row W1 (w.heap.size + 1) = some (#[.int .u64 d.path, .string f.name], 121) := by
    rw [← hW, row_drew]; exact row_alloc_at _ _ _ _ (by simp)
  have mM := HM.out.keep kW (fun h => h)
  have mC := HC.out.keep kW (fun h => h)
  obtain ⟨kl, hkl⟩ := keyK (s := f.name) d0 d1 (by unfold maxLen; omega)
  have hlk := fun k => (mC.keep (Keep.drewN W1 k (fun _ => False)) (fun h => h)).look true lawK Tryd.underlying94 (zeroU _) hkl
  generalize hcv : (C (.agg #[.int .u64 d.path, .string f.name])) = cv at hlk
  clear hcv
  have a10 : W1.cell? ⟨s, 10, none⟩ = some (.map (some cb)) := cell_row rS
  have k0 : W1.cell? ⟨w.heap.size + 1, 0, none⟩ = some (.int .u64 d.path) := cell_row rK
  have k1 : W1.cell? ⟨w.heap.size + 1, 1, none⟩ = some (.string f.name) := cell_row rK
  have HS := Lib.hid rS
  have HN1 := Lib.hid rN
  have HF := Lib.hid rF
  have HK := Lib.hid rK
  have HM1 := Lib.hid mM
  have HC1 := Lib.hid mC
  have HW := Lib.hid kW
  have HZ := Lib.hid zW
  clear hW kW zW rS rN rF rK mM mC c2 c5 c10
  go_wp2_with fail
  go_quiet (fail)
  clear hlk a10 k0 k1
  generalize hV : World.drewN W1 _ = W2
  have kV : Keep W1 W2 (fun _ => False) := by rw [← hV]; exact Keep.drewN _ _ _
  have zV : W2.heap.size = w.heap.size + 2 := by rw [← hV]; exact HZ.out
  clear hV
  obtain ⟨rS, rN, rF, rK⟩ : row W2 s = _ ∧ row W2 nb = _ ∧ row W2 w.heap.size = _ ∧ row W2 (w.heap.size + 1) = _ := ⟨kV.row HS.out (fun h => h), kV.row HN1.out (fun h => h), kV.row HF.out (fun h => h), kV.row HK.out (fun h => h)⟩
  have b5 : W2.cell? ⟨nb, 5, none⟩ = some (.int .u32 d.mode) := cell_row rN
  have f3 : W2.cell? ⟨w.heap.size, 3, none⟩ = some (.int .u32 f.mode) := cell_row rF
  have f4 : W2.cell? ⟨w.heap.size, 4, none⟩ = some (.string f.uid) := cell_row rF
  have t3 : (bits .and .u32 d.mode 2147483648 == 0) = false := by unfold isDir at h1; cases hb : (bits .and .u32 d.mode 2147483648 == 0) <;> simp_all
  have HV := Lib.hid kV
  have HS2 := Lib.hid rS
  have HN2 := Lib.hid rN
  have HF2 := Lib.hid rF
  have HK2 := Lib.hid rK
  have HZ2 := Lib.hid zV
  have hB2 : GB B W2 := (hB.keep HW.out (fun _ h => h.elim)).keep HV.out (fun _ h => h.elim)
  have HB2 := Lib.hid hB2
  clear kV rS rN rF rK zV hB hB2 h1
  go_wp2_with (go_at_call 70; refine (mayMode_any _ _).mono ?_; rintro e w' ⟨rfl, rfl⟩)
  refine (mayUser_any _ _ B HB2.out su).mono ?_
  rintro e W3 ⟨rfl, hb3⟩
  have kV3 : Keep W2 W3 (fun _ => False) := Keep.of_below hb3 _
  have f5 : W3.cell? ⟨w.heap.size, 5, none⟩ = some (.string f.gid) := cell_row (kV3.row HF2.out (fun h => h))
  have HV3 := Lib.hid kV3
  clear hb3 kV3
  go_wp2_with fail
  refine bodyPost_ret (results_tmp2 rfl _ _ _) rfl ⟨rfl, ?_⟩
  exact ((HW.out.trans HV.out (fun _ _ h => h)).trans HV3.out (fun _ _ h => h))

set_option maxHeartbeats 8000000 in
theorem makes_gid {w : World} {s mb cb nb n m B : Nat} {F C : Value → Option Value} {most next : Int} {ov kv bv : Value} {d f : Inf} (hB : GB B w)
    (hrow : row w s = some (storeC 1 (-1073741824) most next mb ov cb, 101)) (hn : row w nb = some (nodeC 0 d kv bv, 92))
    (hm : MapIs Tryd.prog 30 w mb n F) (hc : MapIs Tryd.prog 121 w cb m C)
    (d0 : 0 ≤ d.path) (d1 : d.path < 18446744073709551616) (fn : f.name.size ≤ 4611686018427387904) (su : f.uid.size ≤ 4611686018427387904) (sg : f.gid.size ≤ 4611686018427387904) (_sm : f.muid.size ≤ 4611686018427387904)
    (h1 : isDir d.mode = true) (h2 : modeOk f.mode = true) (h3 : userOk f.uid = true) (h4 : userOk f.gid = false) :
    Calls Tryd.prog 65 #[.pointer (some ⟨s, 0, none⟩), .pointer (some ⟨nb, 0, none⟩), .agg f.cells.toArray] w fun e w' =>
      e = .returned (.tuple #[.int .u64 0, .int .i64 1]) ∧ Keep w w' (fun _ => False) := by
  simp only [Inf.cells]
  have hs := row_lt hrow
  have hnl := row_lt hn
  have c2 : w.cell? ⟨nb, 2, none⟩ = some (.int .u64 d.path) := cell_row hn
  have c5 : w.cell? ⟨nb, 5, none⟩ = some (.int .u32 d.mode) := cell_row hn
  have c10 : w.cell? ⟨s, 10, none⟩ = some (.map (some cb)) := cell_row hrow
  have HR := Lib.hid hrow
  have HN := Lib.hid hn
  have HM := Lib.hid hm
  have HC := Lib.hid hc
  clear hrow hn hm hc
  go_enter Tryd.func65, Tryd.ntmps65
  go_wp2_with fail
  go_region_held3 (fun w' => w'.cell? ⟨nb, 2, none⟩ = some (.int .u64 d.path) ∧ w'.cell? ⟨w.heap.size, 2, none⟩ = some (.string f.name)) (first | go_keep) (first | fail)
  generalize hW : ((w.alloc (.cells #[.int .u64 f.path, .int .u64 f.parent, .string f.name, .int .u32 f.mode, .string f.uid, .string f.gid, .string f.muid, .int .u32 f.atime, .int .u32 f.mtime, .int .u32 f.vers, .int .u64 f.len, .int .i64 f.opens, .int .i64 f.kids] 41)).alloc (.cells #[.int .u64 d.path, .string f.name] 121)).drew = W1
  have kW : Keep w W1 (fun _ => False) := by rw [← hW]; exact ((Keep.alloc _ _ _).thenAlloc _).thenDrew
  have zW : W1.heap.size = w.heap.size + 2 := by rw [← hW]; simp [World.drew]
  have rS := kW.row HR.out (fun h => h)
  have rN := kW.row HN.out (fun h => h)
  have rF : row W1 w.heap.size = some (f.cells.toArray, 41) := by
    rw [← hW, row_drew, row_alloc_past _ _ _ (by simp)]; exact row_alloc_at _ _ _ _ rfl
  have rK : row W1 (w.heap.size + 1) = some (#[.int .u64 d.path, .string f.name], 121) := by
    rw [← hW, row_drew]; exact row_alloc_at _ _ _ _ (by simp)
  have mM := HM.out.keep kW (fun h => h)
  have mC := HC.out.keep kW (fun h => h)
  obtain ⟨kl, hkl⟩ := keyK (s := f.name) d0 d1 (by unfold maxLen; omega)
  have hlk := fun k => (mC.keep (Keep.drewN W1 k (fun _ => False)) (fun h => h)).look true lawK Tryd.underlying94 (zeroU _) hkl
  generalize hcv : (C (.agg #[.int .u64 d.path, .string f.name])) = cv at hlk
  clear hcv
  have a10 : W1.cell? ⟨s, 10, none⟩ = some (.map (some cb)) := cell_row rS
  have k0 : W1.cell? ⟨w.heap.size + 1, 0, none⟩ = some (.int .u64 d.path) := cell_row rK
  have k1 : W1.cell? ⟨w.heap.size + 1, 1, none⟩ = some (.string f.name) := cell_row rK
  have HS := Lib.hid rS
  have HN1 := Lib.hid rN
  have HF := Lib.hid rF
  have HK := Lib.hid rK
  have HM1 := Lib.hid mM
  have HC1 := Lib.hid mC
  have HW := Lib.hid kW
  have HZ := Lib.hid zW
  clear hW kW zW rS rN rF rK mM mC c2 c5 c10
  go_wp2_with fail
  go_quiet (fail)
  clear hlk a10 k0 k1
  generalize hV : World.drewN W1 _ = W2
  have kV : Keep W1 W2 (fun _ => False) := by rw [← hV]; exact Keep.drewN _ _ _
  have zV : W2.heap.size = w.heap.size + 2 := by rw [← hV]; exact HZ.out
  clear hV
  obtain ⟨rS, rN, rF, rK⟩ : row W2 s = _ ∧ row W2 nb = _ ∧ row W2 w.heap.size = _ ∧ row W2 (w.heap.size + 1) = _ := ⟨kV.row HS.out (fun h => h), kV.row HN1.out (fun h => h), kV.row HF.out (fun h => h), kV.row HK.out (fun h => h)⟩
  have b5 : W2.cell? ⟨nb, 5, none⟩ = some (.int .u32 d.mode) := cell_row rN
  have f3 : W2.cell? ⟨w.heap.size, 3, none⟩ = some (.int .u32 f.mode) := cell_row rF
  have f4 : W2.cell? ⟨w.heap.size, 4, none⟩ = some (.string f.uid) := cell_row rF
  have t3 : (bits .and .u32 d.mode 2147483648 == 0) = false := by unfold isDir at h1; cases hb : (bits .and .u32 d.mode 2147483648 == 0) <;> simp_all
  have HV := Lib.hid kV
  have HS2 := Lib.hid rS
  have HN2 := Lib.hid rN
  have HF2 := Lib.hid rF
  have HK2 := Lib.hid rK
  have HZ2 := Lib.hid zV
  have hB2 : GB B W2 := (hB.keep HW.out (fun _ h => h.elim)).keep HV.out (fun _ h => h.elim)
  have HB2 := Lib.hid hB2
  clear kV rS rN rF rK zV hB hB2 h1
  go_wp2_with (go_at_call 70; refine (mayMode_any _ _).mono ?_; rintro e w' ⟨rfl, rfl⟩)
  refine (mayUser_any _ _ B HB2.out su).mono ?_
  rintro e W3 ⟨rfl, hb3⟩
  have kV3 : Keep W2 W3 (fun _ => False) := Keep.of_below hb3 _
  have f5 : W3.cell? ⟨w.heap.size, 5, none⟩ = some (.string f.gid) := cell_row (kV3.row HF2.out (fun h => h))
  have HV3 := Lib.hid kV3
  clear hb3 kV3
  go_wp2_with fail
  refine (mayUser_any _ _ B (HB2.out.keep HV3.out (fun _ h => h.elim)) sg).mono ?_
  rintro e W4 ⟨rfl, hb4⟩
  have kV4 : Keep W2 W4 (fun _ => False) := HV3.out.trans (Keep.of_below hb4 _) (fun _ _ h => h)
  have f6 : W4.cell? ⟨w.heap.size, 6, none⟩ = some (.string f.muid) := cell_row (kV4.row HF2.out (fun h => h))
  have HV4 := Lib.hid kV4
  clear hb4 kV4 f5
  go_wp2_with fail
  refine bodyPost_ret (results_tmp2 rfl _ _ _) rfl ⟨rfl, ?_⟩
  exact ((HW.out.trans HV.out (fun _ _ h => h)).trans HV4.out (fun _ _ h => h))

set_option maxHeartbeats 8000000 in
theorem makes_muid {w : World} {s mb cb nb n m B : Nat} {F C : Value → Option Value} {most next : Int} {ov kv bv : Value} {d f : Inf} (hB : GB B w)
    (hrow : row w s = some (storeC 1 (-1073741824) most next mb ov cb, 101)) (hn : row w nb = some (nodeC 0 d kv bv, 92))
    (hm : MapIs Tryd.prog 30 w mb n F) (hc : MapIs Tryd.prog 121 w cb m C)
    (d0 : 0 ≤ d.path) (d1 : d.path < 18446744073709551616) (fn : f.name.size ≤ 4611686018427387904) (su : f.uid.size ≤ 4611686018427387904) (sg : f.gid.size ≤ 4611686018427387904) (sm : f.muid.size ≤ 4611686018427387904)
    (h1 : isDir d.mode = true) (h2 : modeOk f.mode = true) (h3 : userOk f.uid = true) (h4 : userOk f.gid = true) (h5 : userOk f.muid = false) :
    Calls Tryd.prog 65 #[.pointer (some ⟨s, 0, none⟩), .pointer (some ⟨nb, 0, none⟩), .agg f.cells.toArray] w fun e w' =>
      e = .returned (.tuple #[.int .u64 0, .int .i64 1]) ∧ Keep w w' (fun _ => False) := by
  simp only [Inf.cells]
  have hs := row_lt hrow
  have hnl := row_lt hn
  have c2 : w.cell? ⟨nb, 2, none⟩ = some (.int .u64 d.path) := cell_row hn
  have c5 : w.cell? ⟨nb, 5, none⟩ = some (.int .u32 d.mode) := cell_row hn
  have c10 : w.cell? ⟨s, 10, none⟩ = some (.map (some cb)) := cell_row hrow
  have HR := Lib.hid hrow
  have HN := Lib.hid hn
  have HM := Lib.hid hm
  have HC := Lib.hid hc
  clear hrow hn hm hc
  go_enter Tryd.func65, Tryd.ntmps65
  go_wp2_with fail
  go_region_held3 (fun w' => w'.cell? ⟨nb, 2, none⟩ = some (.int .u64 d.path) ∧ w'.cell? ⟨w.heap.size, 2, none⟩ = some (.string f.name)) (first | go_keep) (first | fail)
  generalize hW : ((w.alloc (.cells #[.int .u64 f.path, .int .u64 f.parent, .string f.name, .int .u32 f.mode, .string f.uid, .string f.gid, .string f.muid, .int .u32 f.atime, .int .u32 f.mtime, .int .u32 f.vers, .int .u64 f.len, .int .i64 f.opens, .int .i64 f.kids] 41)).alloc (.cells #[.int .u64 d.path, .string f.name] 121)).drew = W1
  have kW : Keep w W1 (fun _ => False) := by rw [← hW]; exact ((Keep.alloc _ _ _).thenAlloc _).thenDrew
  have zW : W1.heap.size = w.heap.size + 2 := by rw [← hW]; simp [World.drew]
  have rS := kW.row HR.out (fun h => h)
  have rN := kW.row HN.out (fun h => h)
  have rF : row W1 w.heap.size = some (f.cells.toArray, 41) := by
    rw [← hW, row_drew, row_alloc_past _ _ _ (by simp)]; exact row_alloc_at _ _ _ _ rfl
  have rK : row W1 (w.heap.size + 1) = some (#[.int .u64 d.path, .string f.name], 121) := by
    rw [← hW, row_drew]; exact row_alloc_at _ _ _ _ (by simp)
  have mM := HM.out.keep kW (fun h => h)
  have mC := HC.out.keep kW (fun h => h)
  obtain ⟨kl, hkl⟩ := keyK (s := f.name) d0 d1 (by unfold maxLen; omega)
  have hlk := fun k => (mC.keep (Keep.drewN W1 k (fun _ => False)) (fun h => h)).look true lawK Tryd.underlying94 (zeroU _) hkl
  generalize hcv : (C (.agg #[.int .u64 d.path, .string f.name])) = cv at hlk
  clear hcv
  have a10 : W1.cell? ⟨s, 10, none⟩ = some (.map (some cb)) := cell_row rS
  have k0 : W1.cell? ⟨w.heap.size + 1, 0, none⟩ = some (.int .u64 d.path) := cell_row rK
  have k1 : W1.cell? ⟨w.heap.size + 1, 1, none⟩ = some (.string f.name) := cell_row rK
  have HS := Lib.hid rS
  have HN1 := Lib.hid rN
  have HF := Lib.hid rF
  have HK := Lib.hid rK
  have HM1 := Lib.hid mM
  have HC1 := Lib.hid mC
  have HW := Lib.hid kW
  have HZ := Lib.hid zW
  clear hW kW zW rS rN rF rK mM mC c2 c5 c10
  go_wp2_with fail
  go_quiet (fail)
  clear hlk a10 k0 k1
  generalize hV : World.drewN W1 _ = W2
  have kV : Keep W1 W2 (fun _ => False) := by rw [← hV]; exact Keep.drewN _ _ _
  have zV : W2.heap.size = w.heap.size + 2 := by rw [← hV]; exact HZ.out
  clear hV
  obtain ⟨rS, rN, rF, rK⟩ : row W2 s = _ ∧ row W2 nb = _ ∧ row W2 w.heap.size = _ ∧ row W2 (w.heap.size + 1) = _ := ⟨kV.row HS.out (fun h => h), kV.row HN1.out (fun h => h), kV.row HF.out (fun h => h), kV.row HK.out (fun h => h)⟩
  have b5 : W2.cell? ⟨nb, 5, none⟩ = some (.int .u32 d.mode) := cell_row rN
  have f3 : W2.cell? ⟨w.heap.size, 3, none⟩ = some (.int .u32 f.mode) := cell_row rF
  have f4 : W2.cell? ⟨w.heap.size, 4, none⟩ = some (.string f.uid) := cell_row rF
  have t3 : (bits .and .u32 d.mode 2147483648 == 0) = false := by unfold isDir at h1; cases hb : (bits .and .u32 d.mode 2147483648 == 0) <;> simp_all
  have HV := Lib.hid kV
  have HS2 := Lib.hid rS
  have HN2 := Lib.hid rN
  have HF2 := Lib.hid rF
  have HK2 := Lib.hid rK
  have HZ2 := Lib.hid zV
  have hB2 : GB B W2 := (hB.keep HW.out (fun _ h => h.elim)).keep HV.out (fun _ h => h.elim)
  have HB2 := Lib.hid hB2
  clear kV rS rN rF rK zV hB hB2 h1
  go_wp2_with (go_at_call 70; refine (mayMode_any _ _).mono ?_; rintro e w' ⟨rfl, rfl⟩)
  refine (mayUser_any _ _ B HB2.out su).mono ?_
  rintro e W3 ⟨rfl, hb3⟩
  have kV3 : Keep W2 W3 (fun _ => False) := Keep.of_below hb3 _
  have f5 : W3.cell? ⟨w.heap.size, 5, none⟩ = some (.string f.gid) := cell_row (kV3.row HF2.out (fun h => h))
  have HV3 := Lib.hid kV3
  clear hb3 kV3
  go_wp2_with fail
  refine (mayUser_any _ _ B (HB2.out.keep HV3.out (fun _ h => h.elim)) sg).mono ?_
  rintro e W4 ⟨rfl, hb4⟩
  have kV4 : Keep W2 W4 (fun _ => False) := HV3.out.trans (Keep.of_below hb4 _) (fun _ _ h => h)
  have f6 : W4.cell? ⟨w.heap.size, 6, none⟩ = some (.string f.muid) := cell_row (kV4.row HF2.out (fun h => h))
  have HV4 := Lib.hid kV4
  clear hb4 kV4 f5
  go_wp2_with fail
  refine (mayUser_any _ _ B (HB2.out.keep HV4.out (fun _ h => h.elim)) sm).mono ?_
  rintro e W5 ⟨rfl, hb5⟩
  have kV5 : Keep W2 W5 (fun _ => False) := HV4.out.trans (Keep.of_below hb5 _) (fun _ _ h => h)
  have f2 : W5.cell? ⟨w.heap.size, 2, none⟩ = some (.string f.name) := cell_row (kV5.row HF2.out (fun h => h))
  have HV5 := Lib.hid kV5
  clear hb5 kV5 f6
  go_wp2_with fail
  refine bodyPost_ret (results_tmp2 rfl _ _ _) rfl ⟨rfl, ?_⟩
  exact ((HW.out.trans HV.out (fun _ _ h => h)).trans HV5.out (fun _ _ h => h))

set_option maxHeartbeats 8000000 in
theorem makes_name {w : World} {s mb cb nb n m B : Nat} {F C : Value → Option Value} {most next : Int} {ov kv bv : Value} {d f : Inf} (hB : GB B w)
    (hrow : row w s = some (storeC 1 (-1073741824) most next mb ov cb, 101)) (hn : row w nb = some (nodeC 0 d kv bv, 92))
    (hm : MapIs Tryd.prog 30 w mb n F) (hc : MapIs Tryd.prog 121 w cb m C)
    (d0 : 0 ≤ d.path) (d1 : d.path < 18446744073709551616) (fn : f.name.size ≤ 4611686018427387904) (su : f.uid.size ≤ 4611686018427387904) (sg : f.gid.size ≤ 4611686018427387904) (sm : f.muid.size ≤ 4611686018427387904)
    (h1 : isDir d.mode = true) (h2 : modeOk f.mode = true) (h3 : userOk f.uid = true) (h4 : userOk f.gid = true) (h5 : userOk f.muid = true) (h6 : nameOk f.name = false) :
    Calls Tryd.prog 65 #[.pointer (some ⟨s, 0, none⟩), .pointer (some ⟨nb, 0, none⟩), .agg f.cells.toArray] w fun e w' =>
      e = .returned (.tuple #[.int .u64 0, .int .i64 50]) ∧ Keep w w' (fun _ => False) := by
  simp only [Inf.cells]
  have hs := row_lt hrow
  have hnl := row_lt hn
  have c2 : w.cell? ⟨nb, 2, none⟩ = some (.int .u64 d.path) := cell_row hn
  have c5 : w.cell? ⟨nb, 5, none⟩ = some (.int .u32 d.mode) := cell_row hn
  have c10 : w.cell? ⟨s, 10, none⟩ = some (.map (some cb)) := cell_row hrow
  have HR := Lib.hid hrow
  have HN := Lib.hid hn
  have HM := Lib.hid hm
  have HC := Lib.hid hc
  clear hrow hn hm hc
  go_enter Tryd.func65, Tryd.ntmps65
  go_wp2_with fail
  go_region_held3 (fun w' => w'.cell? ⟨nb, 2, none⟩ = some (.int .u64 d.path) ∧ w'.cell? ⟨w.heap.size, 2, none⟩ = some (.string f.name)) (first | go_keep) (first | fail)
  generalize hW : ((w.alloc (.cells #[.int .u64 f.path, .int .u64 f.parent, .string f.name, .int .u32 f.mode, .string f.uid, .string f.gid, .string f.muid, .int .u32 f.atime, .int .u32 f.mtime, .int .u32 f.vers, .int .u64 f.len, .int .i64 f.opens, .int .i64 f.kids] 41)).alloc (.cells #[.int .u64 d.path, .string f.name] 121)).drew = W1
  have kW : Keep w W1 (fun _ => False) := by rw [← hW]; exact ((Keep.alloc _ _ _).thenAlloc _).thenDrew
  have zW : W1.heap.size = w.heap.size + 2 := by rw [← hW]; simp [World.drew]
  have rS := kW.row HR.out (fun h => h)
  have rN := kW.row HN.out (fun h => h)
  have rF : row W1 w.heap.size = some (f.cells.toArray, 41) := by
    rw [← hW, row_drew, row_alloc_past _ _ _ (by simp)]; exact row_alloc_at _ _ _ _ rfl
  have rK : row W1 (w.heap.size + 1) = some (#[.int .u64 d.path, .string f.name], 121) := by
    rw [← hW, row_drew]; exact row_alloc_at _ _ _ _ (by simp)
  have mM := HM.out.keep kW (fun h => h)
  have mC := HC.out.keep kW (fun h => h)
  obtain ⟨kl, hkl⟩ := keyK (s := f.name) d0 d1 (by unfold maxLen; omega)
  have hlk := fun k => (mC.keep (Keep.drewN W1 k (fun _ => False)) (fun h => h)).look true lawK Tryd.underlying94 (zeroU _) hkl
  generalize hcv : (C (.agg #[.int .u64 d.path, .string f.name])) = cv at hlk
  clear hcv
  have a10 : W1.cell? ⟨s, 10, none⟩ = some (.map (some cb)) := cell_row rS
  have k0 : W1.cell? ⟨w.heap.size + 1, 0, none⟩ = some (.int .u64 d.path) := cell_row rK
  have k1 : W1.cell? ⟨w.heap.size + 1, 1, none⟩ = some (.string f.name) := cell_row rK
  have HS := Lib.hid rS
  have HN1 := Lib.hid rN
  have HF := Lib.hid rF
  have HK := Lib.hid rK
  have HM1 := Lib.hid mM
  have HC1 := Lib.hid mC
  have HW := Lib.hid kW
  have HZ := Lib.hid zW
  clear hW kW zW rS rN rF rK mM mC c2 c5 c10
  go_wp2_with fail
  go_quiet (fail)
  clear hlk a10 k0 k1
  generalize hV : World.drewN W1 _ = W2
  have kV : Keep W1 W2 (fun _ => False) := by rw [← hV]; exact Keep.drewN _ _ _
  have zV : W2.heap.size = w.heap.size + 2 := by rw [← hV]; exact HZ.out
  clear hV
  obtain ⟨rS, rN, rF, rK⟩ : row W2 s = _ ∧ row W2 nb = _ ∧ row W2 w.heap.size = _ ∧ row W2 (w.heap.size + 1) = _ := ⟨kV.row HS.out (fun h => h), kV.row HN1.out (fun h => h), kV.row HF.out (fun h => h), kV.row HK.out (fun h => h)⟩
  have b5 : W2.cell? ⟨nb, 5, none⟩ = some (.int .u32 d.mode) := cell_row rN
  have f3 : W2.cell? ⟨w.heap.size, 3, none⟩ = some (.int .u32 f.mode) := cell_row rF
  have f4 : W2.cell? ⟨w.heap.size, 4, none⟩ = some (.string f.uid) := cell_row rF
  have t3 : (bits .and .u32 d.mode 2147483648 == 0) = false := by unfold isDir at h1; cases hb : (bits .and .u32 d.mode 2147483648 == 0) <;> simp_all
  have HV := Lib.hid kV
  have HS2 := Lib.hid rS
  have HN2 := Lib.hid rN
  have HF2 := Lib.hid rF
  have HK2 := Lib.hid rK
  have HZ2 := Lib.hid zV
  have hB2 : GB B W2 := (hB.keep HW.out (fun _ h => h.elim)).keep HV.out (fun _ h => h.elim)
  have HB2 := Lib.hid hB2
  clear kV rS rN rF rK zV hB hB2 h1
  go_wp2_with (go_at_call 70; refine (mayMode_any _ _).mono ?_; rintro e w' ⟨rfl, rfl⟩)
  refine (mayUser_any _ _ B HB2.out su).mono ?_
  rintro e W3 ⟨rfl, hb3⟩
  have kV3 : Keep W2 W3 (fun _ => False) := Keep.of_below hb3 _
  have f5 : W3.cell? ⟨w.heap.size, 5, none⟩ = some (.string f.gid) := cell_row (kV3.row HF2.out (fun h => h))
  have HV3 := Lib.hid kV3
  clear hb3 kV3
  go_wp2_with fail
  refine (mayUser_any _ _ B (HB2.out.keep HV3.out (fun _ h => h.elim)) sg).mono ?_
  rintro e W4 ⟨rfl, hb4⟩
  have kV4 : Keep W2 W4 (fun _ => False) := HV3.out.trans (Keep.of_below hb4 _) (fun _ _ h => h)
  have f6 : W4.cell? ⟨w.heap.size, 6, none⟩ = some (.string f.muid) := cell_row (kV4.row HF2.out (fun h => h))
  have HV4 := Lib.hid kV4
  clear hb4 kV4 f5
  go_wp2_with fail
  refine (mayUser_any _ _ B (HB2.out.keep HV4.out (fun _ h => h.elim)) sm).mono ?_
  rintro e W5 ⟨rfl, hb5⟩
  have kV5 : Keep W2 W5 (fun _ => False) := HV4.out.trans (Keep.of_below hb5 _) (fun _ _ h => h)
  have f2 : W5.cell? ⟨w.heap.size, 2, none⟩ = some (.string f.name) := cell_row (kV5.row HF2.out (fun h => h))
  have HV5 := Lib.hid kV5
  clear hb5 kV5 f6
  go_wp2_with fail
  refine (check_any _ _ B (HB2.out.keep HV5.out (fun _ h => h.elim)) (by omega)).mono ?_
  rintro e W6 ⟨rfl, hb6⟩
  have kV6 : Keep W2 W6 (fun _ => False) := HV5.out.trans (Keep.of_below hb6 _) (fun _ _ h => h)
  have he0 : nameErr f.name = 50 := by simp [nameErr, h6]
  have s8 : W6.cell? ⟨s, 8, none⟩ = some (.map (some mb)) := cell_row (kV6.row HS2.out (fun h => h))
  have s6 : W6.cell? ⟨s, 6, none⟩ = some (.int .i64 most) := cell_row (kV6.row HS2.out (fun h => h))
  have s7 : W6.cell? ⟨s, 7, none⟩ = some (.int .u64 next) := cell_row (kV6.row HS2.out (fun h => h))
  have z7 : W6.frozen? ⟨s, 7, none⟩ = false := frozen_row (kV6.row HS2.out (fun h => h))
  have hlen := fun k => (((HM1.out.keep HV.out (fun h => h)).keep kV6 (fun h => h)).keep (Keep.drewN W6 k (fun _ => False)) (fun h => h)).len (ty := 3) Tryd.underlying93
  have HV6 := Lib.hid kV6
  rw [he0]
  clear hb6 kV6 f2 he0
  go_wp2_with fail
  refine bodyPost_ret (results_tmp2 rfl _ _ _) rfl ⟨rfl, ?_⟩
  exact ((HW.out.trans HV.out (fun _ _ h => h)).trans HV6.out (fun _ _ h => h))

set_option maxHeartbeats 8000000 in
theorem makes_twice {w : World} {s mb cb nb n m B : Nat} {F C : Value → Option Value} {most next : Int} {ov kv bv : Value} {d f : Inf} (hB : GB B w)
    (hrow : row w s = some (storeC 1 (-1073741824) most next mb ov cb, 101)) (hn : row w nb = some (nodeC 0 d kv bv, 92))
    (hm : MapIs Tryd.prog 30 w mb n F) (hc : MapIs Tryd.prog 121 w cb m C)
    (d0 : 0 ≤ d.path) (d1 : d.path < 18446744073709551616) (fn : f.name.size ≤ 4611686018427387904) (su : f.uid.size ≤ 4611686018427387904) (sg : f.gid.size ≤ 4611686018427387904) (sm : f.muid.size ≤ 4611686018427387904)
    (h1 : isDir d.mode = true) (h2 : modeOk f.mode = true) (h3 : userOk f.uid = true) (h4 : userOk f.gid = true) (h5 : userOk f.muid = true) (h6 : nameOk f.name = true) {tv : Int} (hCn : C (.agg #[.int .u64 d.path, .string f.name]) = some (.int .u64 tv)) :
    Calls Tryd.prog 65 #[.pointer (some ⟨s, 0, none⟩), .pointer (some ⟨nb, 0, none⟩), .agg f.cells.toArray] w fun e w' =>
      e = .returned (.tuple #[.int .u64 0, .int .i64 82]) ∧ Keep w w' (fun _ => False) := by
  simp only [Inf.cells]
  have hs := row_lt hrow
  have hnl := row_lt hn
  have c2 : w.cell? ⟨nb, 2, none⟩ = some (.int .u64 d.path) := cell_row hn
  have c5 : w.cell? ⟨nb, 5, none⟩ = some (.int .u32 d.mode) := cell_row hn
  have c10 : w.cell? ⟨s, 10, none⟩ = some (.map (some cb)) := cell_row hrow
  have HR := Lib.hid hrow
  have HN := Lib.hid hn
  have HM := Lib.hid hm
  have HC := Lib.hid hc
  clear hrow hn hm hc
  go_enter Tryd.func65, Tryd.ntmps65
  go_wp2_with fail
  go_region_held3 (fun w' => w'.cell? ⟨nb, 2, none⟩ = some (.int .u64 d.path) ∧ w'.cell? ⟨w.heap.size, 2, none⟩ = some (.string f.name)) (first | go_keep) (first | fail)
  generalize hW : ((w.alloc (.cells #[.int .u64 f.path, .int .u64 f.parent, .string f.name, .int .u32 f.mode, .string f.uid, .string f.gid, .string f.muid, .int .u32 f.atime, .int .u32 f.mtime, .int .u32 f.vers, .int .u64 f.len, .int .i64 f.opens, .int .i64 f.kids] 41)).alloc (.cells #[.int .u64 d.path, .string f.name] 121)).drew = W1
  have kW : Keep w W1 (fun _ => False) := by rw [← hW]; exact ((Keep.alloc _ _ _).thenAlloc _).thenDrew
  have zW : W1.heap.size = w.heap.size + 2 := by rw [← hW]; simp [World.drew]
  have rS := kW.row HR.out (fun h => h)
  have rN := kW.row HN.out (fun h => h)
  have rF : row W1 w.heap.size = some (f.cells.toArray, 41) := by
    rw [← hW, row_drew, row_alloc_past _ _ _ (by simp)]; exact row_alloc_at _ _ _ _ rfl
  have rK : row W1 (w.heap.size + 1) = some (#[.int .u64 d.path, .string f.name], 121) := by
    rw [← hW, row_drew]; exact row_alloc_at _ _ _ _ (by simp)
  have mM := HM.out.keep kW (fun h => h)
  have mC := HC.out.keep kW (fun h => h)
  obtain ⟨kl, hkl⟩ := keyK (s := f.name) d0 d1 (by unfold maxLen; omega)
  have hlk := fun k => (mC.keep (Keep.drewN W1 k (fun _ => False)) (fun h => h)).look true lawK Tryd.underlying94 (zeroU _) hkl
  simp only [hCn] at hlk
  have a10 : W1.cell? ⟨s, 10, none⟩ = some (.map (some cb)) := cell_row rS
  have k0 : W1.cell? ⟨w.heap.size + 1, 0, none⟩ = some (.int .u64 d.path) := cell_row rK
  have k1 : W1.cell? ⟨w.heap.size + 1, 1, none⟩ = some (.string f.name) := cell_row rK
  have HS := Lib.hid rS
  have HN1 := Lib.hid rN
  have HF := Lib.hid rF
  have HK := Lib.hid rK
  have HM1 := Lib.hid mM
  have HC1 := Lib.hid mC
  have HW := Lib.hid kW
  have HZ := Lib.hid zW
  clear hW kW zW rS rN rF rK mM mC c2 c5 c10
  go_wp2_with fail
  go_quiet (fail)
  clear hlk a10 k0 k1
  generalize hV : World.drewN W1 _ = W2
  have kV : Keep W1 W2 (fun _ => False) := by rw [← hV]; exact Keep.drewN _ _ _
  have zV : W2.heap.size = w.heap.size + 2 := by rw [← hV]; exact HZ.out
  clear hV
  obtain ⟨rS, rN, rF, rK⟩ : row W2 s = _ ∧ row W2 nb = _ ∧ row W2 w.heap.size = _ ∧ row W2 (w.heap.size + 1) = _ := ⟨kV.row HS.out (fun h => h), kV.row HN1.out (fun h => h), kV.row HF.out (fun h => h), kV.row HK.out (fun h => h)⟩
  have b5 : W2.cell? ⟨nb, 5, none⟩ = some (.int .u32 d.mode) := cell_row rN
  have f3 : W2.cell? ⟨w.heap.size, 3, none⟩ = some (.int .u32 f.mode) := cell_row rF
  have f4 : W2.cell? ⟨w.heap.size, 4, none⟩ = some (.string f.uid) := cell_row rF
  have t3 : (bits .and .u32 d.mode 2147483648 == 0) = false := by unfold isDir at h1; cases hb : (bits .and .u32 d.mode 2147483648 == 0) <;> simp_all
  have HV := Lib.hid kV
  have HS2 := Lib.hid rS
  have HN2 := Lib.hid rN
  have HF2 := Lib.hid rF
  have HK2 := Lib.hid rK
  have HZ2 := Lib.hid zV
  have hB2 : GB B W2 := (hB.keep HW.out (fun _ h => h.elim)).keep HV.out (fun _ h => h.elim)
  have HB2 := Lib.hid hB2
  clear kV rS rN rF rK zV hB hB2 h1
  go_wp2_with (go_at_call 70; refine (mayMode_any _ _).mono ?_; rintro e w' ⟨rfl, rfl⟩)
  refine (mayUser_any _ _ B HB2.out su).mono ?_
  rintro e W3 ⟨rfl, hb3⟩
  have kV3 : Keep W2 W3 (fun _ => False) := Keep.of_below hb3 _
  have f5 : W3.cell? ⟨w.heap.size, 5, none⟩ = some (.string f.gid) := cell_row (kV3.row HF2.out (fun h => h))
  have HV3 := Lib.hid kV3
  clear hb3 kV3
  go_wp2_with fail
  refine (mayUser_any _ _ B (HB2.out.keep HV3.out (fun _ h => h.elim)) sg).mono ?_
  rintro e W4 ⟨rfl, hb4⟩
  have kV4 : Keep W2 W4 (fun _ => False) := HV3.out.trans (Keep.of_below hb4 _) (fun _ _ h => h)
  have f6 : W4.cell? ⟨w.heap.size, 6, none⟩ = some (.string f.muid) := cell_row (kV4.row HF2.out (fun h => h))
  have HV4 := Lib.hid kV4
  clear hb4 kV4 f5
  go_wp2_with fail
  refine (mayUser_any _ _ B (HB2.out.keep HV4.out (fun _ h => h.elim)) sm).mono ?_
  rintro e W5 ⟨rfl, hb5⟩
  have kV5 : Keep W2 W5 (fun _ => False) := HV4.out.trans (Keep.of_below hb5 _) (fun _ _ h => h)
  have f2 : W5.cell? ⟨w.heap.size, 2, none⟩ = some (.string f.name) := cell_row (kV5.row HF2.out (fun h => h))
  have HV5 := Lib.hid kV5
  clear hb5 kV5 f6
  go_wp2_with fail
  refine (check_any _ _ B (HB2.out.keep HV5.out (fun _ h => h.elim)) (by omega)).mono ?_
  rintro e W6 ⟨rfl, hb6⟩
  have kV6 : Keep W2 W6 (fun _ => False) := HV5.out.trans (Keep.of_below hb6 _) (fun _ _ h => h)
  have he0 : nameErr f.name = 0 := by simp [nameErr, h6]
  have s8 : W6.cell? ⟨s, 8, none⟩ = some (.map (some mb)) := cell_row (kV6.row HS2.out (fun h => h))
  have s6 : W6.cell? ⟨s, 6, none⟩ = some (.int .i64 most) := cell_row (kV6.row HS2.out (fun h => h))
  have s7 : W6.cell? ⟨s, 7, none⟩ = some (.int .u64 next) := cell_row (kV6.row HS2.out (fun h => h))
  have z7 : W6.frozen? ⟨s, 7, none⟩ = false := frozen_row (kV6.row HS2.out (fun h => h))
  have hlen := fun k => (((HM1.out.keep HV.out (fun h => h)).keep kV6 (fun h => h)).keep (Keep.drewN W6 k (fun _ => False)) (fun h => h)).len (ty := 3) Tryd.underlying93
  have HV6 := Lib.hid kV6
  rw [he0]
  clear hb6 kV6 f2 he0
  go_wp2_with fail
  refine bodyPost_ret (results_tmp2 rfl _ _ _) rfl ⟨rfl, ?_⟩
  exact ((HW.out.trans HV.out (fun _ _ h => h)).trans HV6.out (fun _ _ h => h))

set_option maxHeartbeats 8000000 in
theorem makes_full {w : World} {s mb cb nb n m B : Nat} {F C : Value → Option Value} {most next : Int} {ov kv bv : Value} {d f : Inf} (hB : GB B w)
    (hrow : row w s = some (storeC 1 (-1073741824) most next mb ov cb, 101)) (hn : row w nb = some (nodeC 0 d kv bv, 92))
    (hm : MapIs Tryd.prog 30 w mb n F) (hc : MapIs Tryd.prog 121 w cb m C)
    (d0 : 0 ≤ d.path) (d1 : d.path < 18446744073709551616) (fn : f.name.size ≤ 4611686018427387904) (su : f.uid.size ≤ 4611686018427387904) (sg : f.gid.size ≤ 4611686018427387904) (sm : f.muid.size ≤ 4611686018427387904)
    (h1 : isDir d.mode = true) (h2 : modeOk f.mode = true) (h3 : userOk f.uid = true) (h4 : userOk f.gid = true) (h5 : userOk f.muid = true) (h6 : nameOk f.name = true) (hroom : most ≤ (n : Int)) (hCn : C (.agg #[.int .u64 d.path, .string f.name]) = none) :
    Calls Tryd.prog 65 #[.pointer (some ⟨s, 0, none⟩), .pointer (some ⟨nb, 0, none⟩), .agg f.cells.toArray] w fun e w' =>
      e = .returned (.tuple #[.int .u64 0, .int .i64 83]) ∧ Keep w w' (fun _ => False) := by
  simp only [Inf.cells]
  have hs := row_lt hrow
  have hnl := row_lt hn
  have c2 : w.cell? ⟨nb, 2, none⟩ = some (.int .u64 d.path) := cell_row hn
  have c5 : w.cell? ⟨nb, 5, none⟩ = some (.int .u32 d.mode) := cell_row hn
  have c10 : w.cell? ⟨s, 10, none⟩ = some (.map (some cb)) := cell_row hrow
  have HR := Lib.hid hrow
  have HN := Lib.hid hn
  have HM := Lib.hid hm
  have HC := Lib.hid hc
  clear hrow hn hm hc
  go_enter Tryd.func65, Tryd.ntmps65
  go_wp2_with fail
  go_region_held3 (fun w' => w'.cell? ⟨nb, 2, none⟩ = some (.int .u64 d.path) ∧ w'.cell? ⟨w.heap.size, 2, none⟩ = some (.string f.name)) (first | go_keep) (first | fail)
  generalize hW : ((w.alloc (.cells #[.int .u64 f.path, .int .u64 f.parent, .string f.name, .int .u32 f.mode, .string f.uid, .string f.gid, .string f.muid, .int .u32 f.atime, .int .u32 f.mtime, .int .u32 f.vers, .int .u64 f.len, .int .i64 f.opens, .int .i64 f.kids] 41)).alloc (.cells #[.int .u64 d.path, .string f.name] 121)).drew = W1
  have kW : Keep w W1 (fun _ => False) := by rw [← hW]; exact ((Keep.alloc _ _ _).thenAlloc _).thenDrew
  have zW : W1.heap.size = w.heap.size + 2 := by rw [← hW]; simp [World.drew]
  have rS := kW.row HR.out (fun h => h)
  have rN := kW.row HN.out (fun h => h)
  have rF : row W1 w.heap.size = some (f.cells.toArray, 41) := by
    rw [← hW, row_drew, row_alloc_past _ _ _ (by simp)]; exact row_alloc_at _ _ _ _ rfl
  have rK : row W1 (w.heap.size + 1) = some (#[.int .u64 d.path, .string f.name], 121) := by
    rw [← hW, row_drew]; exact row_alloc_at _ _ _ _ (by simp)
  have mM := HM.out.keep kW (fun h => h)
  have mC := HC.out.keep kW (fun h => h)
  obtain ⟨kl, hkl⟩ := keyK (s := f.name) d0 d1 (by unfold maxLen; omega)
  have hlk := fun k => (mC.keep (Keep.drewN W1 k (fun _ => False)) (fun h => h)).look true lawK Tryd.underlying94 (zeroU _) hkl
  simp only [hCn] at hlk
  have a10 : W1.cell? ⟨s, 10, none⟩ = some (.map (some cb)) := cell_row rS
  have k0 : W1.cell? ⟨w.heap.size + 1, 0, none⟩ = some (.int .u64 d.path) := cell_row rK
  have k1 : W1.cell? ⟨w.heap.size + 1, 1, none⟩ = some (.string f.name) := cell_row rK
  have HS := Lib.hid rS
  have HN1 := Lib.hid rN
  have HF := Lib.hid rF
  have HK := Lib.hid rK
  have HM1 := Lib.hid mM
  have HC1 := Lib.hid mC
  have HW := Lib.hid kW
  have HZ := Lib.hid zW
  clear hW kW zW rS rN rF rK mM mC c2 c5 c10
  go_wp2_with fail
  go_quiet (fail)
  clear hlk a10 k0 k1
  generalize hV : World.drewN W1 _ = W2
  have kV : Keep W1 W2 (fun _ => False) := by rw [← hV]; exact Keep.drewN _ _ _
  have zV : W2.heap.size = w.heap.size + 2 := by rw [← hV]; exact HZ.out
  clear hV
  obtain ⟨rS, rN, rF, rK⟩ : row W2 s = _ ∧ row W2 nb = _ ∧ row W2 w.heap.size = _ ∧ row W2 (w.heap.size + 1) = _ := ⟨kV.row HS.out (fun h => h), kV.row HN1.out (fun h => h), kV.row HF.out (fun h => h), kV.row HK.out (fun h => h)⟩
  have b5 : W2.cell? ⟨nb, 5, none⟩ = some (.int .u32 d.mode) := cell_row rN
  have f3 : W2.cell? ⟨w.heap.size, 3, none⟩ = some (.int .u32 f.mode) := cell_row rF
  have f4 : W2.cell? ⟨w.heap.size, 4, none⟩ = some (.string f.uid) := cell_row rF
  have t3 : (bits .and .u32 d.mode 2147483648 == 0) = false := by unfold isDir at h1; cases hb : (bits .and .u32 d.mode 2147483648 == 0) <;> simp_all
  have HV := Lib.hid kV
  have HS2 := Lib.hid rS
  have HN2 := Lib.hid rN
  have HF2 := Lib.hid rF
  have HK2 := Lib.hid rK
  have HZ2 := Lib.hid zV
  have hB2 : GB B W2 := (hB.keep HW.out (fun _ h => h.elim)).keep HV.out (fun _ h => h.elim)
  have HB2 := Lib.hid hB2
  clear kV rS rN rF rK zV hB hB2 h1
  go_wp2_with (go_at_call 70; refine (mayMode_any _ _).mono ?_; rintro e w' ⟨rfl, rfl⟩)
  refine (mayUser_any _ _ B HB2.out su).mono ?_
  rintro e W3 ⟨rfl, hb3⟩
  have kV3 : Keep W2 W3 (fun _ => False) := Keep.of_below hb3 _
  have f5 : W3.cell? ⟨w.heap.size, 5, none⟩ = some (.string f.gid) := cell_row (kV3.row HF2.out (fun h => h))
  have HV3 := Lib.hid kV3
  clear hb3 kV3
  go_wp2_with fail
  refine (mayUser_any _ _ B (HB2.out.keep HV3.out (fun _ h => h.elim)) sg).mono ?_
  rintro e W4 ⟨rfl, hb4⟩
  have kV4 : Keep W2 W4 (fun _ => False) := HV3.out.trans (Keep.of_below hb4 _) (fun _ _ h => h)
  have f6 : W4.cell? ⟨w.heap.size, 6, none⟩ = some (.string f.muid) := cell_row (kV4.row HF2.out (fun h => h))
  have HV4 := Lib.hid kV4
  clear hb4 kV4 f5
  go_wp2_with fail
  refine (mayUser_any _ _ B (HB2.out.keep HV4.out (fun _ h => h.elim)) sm).mono ?_
  rintro e W5 ⟨rfl, hb5⟩
  have kV5 : Keep W2 W5 (fun _ => False) := HV4.out.trans (Keep.of_below hb5 _) (fun _ _ h => h)
  have f2 : W5.cell? ⟨w.heap.size, 2, none⟩ = some (.string f.name) := cell_row (kV5.row HF2.out (fun h => h))
  have HV5 := Lib.hid kV5
  clear hb5 kV5 f6
  go_wp2_with fail
  refine (check_any _ _ B (HB2.out.keep HV5.out (fun _ h => h.elim)) (by omega)).mono ?_
  rintro e W6 ⟨rfl, hb6⟩
  have kV6 : Keep W2 W6 (fun _ => False) := HV5.out.trans (Keep.of_below hb6 _) (fun _ _ h => h)
  have he0 : nameErr f.name = 0 := by simp [nameErr, h6]
  have s8 : W6.cell? ⟨s, 8, none⟩ = some (.map (some mb)) := cell_row (kV6.row HS2.out (fun h => h))
  have s6 : W6.cell? ⟨s, 6, none⟩ = some (.int .i64 most) := cell_row (kV6.row HS2.out (fun h => h))
  have s7 : W6.cell? ⟨s, 7, none⟩ = some (.int .u64 next) := cell_row (kV6.row HS2.out (fun h => h))
  have z7 : W6.frozen? ⟨s, 7, none⟩ = false := frozen_row (kV6.row HS2.out (fun h => h))
  have hlen := fun k => (((HM1.out.keep HV.out (fun h => h)).keep kV6 (fun h => h)).keep (Keep.drewN W6 k (fun _ => False)) (fun h => h)).len (ty := 3) Tryd.underlying93
  have HV6 := Lib.hid kV6
  rw [he0]
  clear hb6 kV6 f2 he0
  go_wp2_with fail
  go_quiet (fail)
  go_wp2_with fail
  refine bodyPost_ret (results_tmp2 rfl _ _ _) rfl ⟨rfl, ?_⟩
  exact (Keep.drewN W6 _ (fun _ => False)).after (fun _ _ h => h) ((HW.out.trans HV.out (fun _ _ h => h)).trans HV6.out (fun _ _ h => h))
end Go.Proofs.YtfbcdhcgmncklaaDoor
