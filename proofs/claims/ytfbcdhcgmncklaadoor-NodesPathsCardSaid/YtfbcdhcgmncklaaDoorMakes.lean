/- (*Store).makes. -/
import Derived.Test.YtfbcdhcgmncklaaDoorLk
import Derived.Test.YtfbcdhcgmncklaaDoorTell
import Derived.Test.YtfbcdhcgmncklaaDoorPure
import Derived.Deep.RegionHeld3
import Derived.StillTailTactics
import Derived.Maps.OwnSet
import Derived.Maps.AppendAt
namespace Go.Proofs.YtfbcdhcgmncklaaDoor
open Go Go.RowKit Go.Nd Go.Maps Go.MuLone Go.RwLone
set_option maxRecDepth 100000

theorem size121 : (Tryd.prog.info? 121).map (·.size) = some 2 := by kernel_rfl
theorem zeroU (w : World) : (zeroValue 30).run Tryd.prog w = .ok (.int .u64 0) w := Tryd.zeroValue30 w
theorem bld121 (d : Int) (s : ByteArray) : Tryd.prog.built 121 [(0, .int .u64 d), (1, .string s)] = some #[.int .u64 d, .string s] := by kernel_rfl

/-- What a node's making leaves behind. g: the new node's block. -/
structure MadeOk (w w' : World) (s mb cb nb n kn m : Nat) (most next : Int) (ov kv bv : Value) (d f : Inf) (F' : Nat → Value → Option Value) (C C' : Value → Option Value) (xs ys : List Value) (g : Nat) (ov' kv' : Value) : Prop where
  srow : row w' s = some (storeC 1 (-1073741824) most (next + 1) mb ov' cb, 101)
  nrow : row w' nb = some (nodeC 0 d kv' bv, 92)
  erow : row w' g = some (nodeC 0 (newEnt next d.path f).inf (.slice none 0 0) (.slice none 0 0), 92)
  g0 : w.heap.size ≤ g
  nodes : MapIs Tryd.prog 30 w' mb (n + 1) (F' g)
  child : ∃ m', MapIs Tryd.prog 121 w' cb m' C'
  order : w'.ownsRow 0 30 1 ov' (n + 1) (xs ++ [.int .u64 next])
  kids : w'.ownsRow 0 30 1 kv' (kn + 1) (ys ++ [.int .u64 next])
  oloc : ov'.ownBlock = ov.ownBlock ∨ ∃ b, ov'.ownBlock = some b ∧ g < b ∧ b < w'.heap.size
  kloc : kv'.ownBlock = kv.ownBlock ∨ ∃ b, kv'.ownBlock = some b ∧ g < b ∧ b < w'.heap.size ∧ ov'.ownBlock ≠ some b
  keep : Keep w w' (fun b => b = s ∨ b = mb ∨ b = cb ∨ b = nb ∨ ov.ownBlock = some b ∨ kv.ownBlock = some b)

theorem Tryd.info30 : (Tryd.prog.info? 30).map (fun i => (i.zero, i.size, i.bytes)) = some (some (.int .u64 0), 1, 8) := by kernel_rfl

set_option maxHeartbeats 8000000 in
theorem makes_ok {w : World} {s mb cb nb n m B : Nat} {F C : Value → Option Value} {most next : Int} {ov kv bv : Value} {d f : Inf} (hB : GB B w)
    (hrow : row w s = some (storeC 1 (-1073741824) most next mb ov cb, 101)) (hn : row w nb = some (nodeC 0 d kv bv, 92))
    (hm : MapIs Tryd.prog 30 w mb n F) (hc : MapIs Tryd.prog 121 w cb m C)
    (d0 : 0 ≤ d.path) (d1 : d.path < 18446744073709551616) (fn : f.name.size ≤ 255)
    (h1 : isDir d.mode = true) (h2 : modeOk f.mode = true) (h3 : userOk f.uid = true) (h4 : userOk f.gid = true) (h5 : userOk f.muid = true) (h6 : nameOk f.name = true) (su : f.uid.size ≤ 4611686018427387904) (sg : f.gid.size ≤ 4611686018427387904) (sm : f.muid.size ≤ 4611686018427387904) (hroom : (n : Int) < most) {F' : Nat → Value → Option Value} (hF1 : ∀ g, F' g (.int .u64 next) = some (.pointer (some ⟨g, 0, none⟩))) (hF2 : ∀ g x, x ≠ .int .u64 next → F' g x = F x) {kn : Nat} {xs ys : List Value} (hov : w.ownsRow 0 30 1 ov n xs) (hkv : w.ownsRow 0 30 1 kv kn ys) (hovb : ∀ g, ov.ownBlock = some g → g ≠ s ∧ g ≠ mb ∧ g ≠ cb ∧ g ≠ nb ∧ kv.ownBlock ≠ some g) (hkvb : ∀ g, kv.ownBlock = some g → g ≠ s ∧ g ≠ mb ∧ g ≠ cb ∧ g ≠ nb) (hnm : nb ≠ mb) (hcm : cb ≠ mb) (hFn : F (.int .u64 next) = none) (hnn : n ≤ 4096) (hkn : kn ≤ 4096) {C' : Value → Option Value} (hC1 : C' (.agg #[.int .u64 d.path, .string f.name]) = some (.int .u64 next)) (hC2 : ∀ x, x ≠ .agg #[.int .u64 d.path, .string f.name] → C' x = C x) (hnc : nb ≠ cb) (hnes : nb ≠ s) (hms : mb ≠ s) (hcs : cb ≠ s) (x0 : 0 ≤ next) (x1 : next < 18446744073709551615) (hCn : C (.agg #[.int .u64 d.path, .string f.name]) = none) :
    Calls Tryd.prog 65 #[.pointer (some ⟨s, 0, none⟩), .pointer (some ⟨nb, 0, none⟩), .agg f.cells.toArray] w fun e w' =>
      e = .returned (.tuple #[.int .u64 next, .int .i64 0]) ∧ ∃ g ov' kv', MadeOk w w' s mb cb nb n kn m most next ov kv bv d f F' C C' xs ys g ov' kv' := by
  simp only [Inf.cells]
  have hs := row_lt hrow
  have hnl := row_lt hn
  have c2 : w.cell? ⟨nb, 2, none⟩ = some (.int .u64 d.path) := cell_row hn
  have c5 : w.cell? ⟨nb, 5, none⟩ = some (.int .u32 d.mode) := cell_row hn
  have c10 : w.cell? ⟨s, 10, none⟩ = some (.map (some cb)) := cell_row hrow
  have HR := Lib.hid hrow
  have HN := Lib.hid hn
  have HM := Lib.hid hm
  have HC := Lib.hid hc
  clear hrow hn hm hc
  go_enter Tryd.func65, Tryd.ntmps65
  go_wp2_with fail
  go_region_held3 (fun w' => w'.cell? ⟨nb, 2, none⟩ = some (.int .u64 d.path) ∧ w'.cell? ⟨w.heap.size, 2, none⟩ = some (.string f.name)) (first | go_keep) (first | fail)
  generalize hW : ((w.alloc (.cells #[.int .u64 f.path, .int .u64 f.parent, .string f.name, .int .u32 f.mode, .string f.uid, .string f.gid, .string f.muid, .int .u32 f.atime, .int .u32 f.mtime, .int .u32 f.vers, .int .u64 f.len, .int .i64 f.opens, .int .i64 f.kids] 41)).alloc (.cells #[.int .u64 d.path, .string f.name] 121)).drew = W1
  have kW : Keep w W1 (fun _ => False) := by rw [← hW]; exact ((Keep.alloc _ _ _).thenAlloc _).thenDrew
  have zW : W1.heap.size = w.heap.size + 2 := by rw [← hW]; simp [World.drew]
  have rS := kW.row HR.out (fun h => h)
  have rN := kW.row HN.out (fun h => h)
  have rF : row W1 w.heap.size = some (f.cells.toArray, 41) := by
    rw [← hW, row_drew, row_alloc_past _ _ _ (by simp)]; exact row_alloc_at _ _ _ _ rfl
  have rK : row W1 (w.heap.size + 1) = some (#[.int .u64 d.path, .string f.name], 121) := by
    rw [← hW, row_drew]; exact row_alloc_at _ _ _ _ (by simp)
  have mM := HM.out.keep kW (fun h => h)
  have mC := HC.out.keep kW (fun h => h)
  obtain ⟨kl, hkl⟩ := keyK (s := f.name) d0 d1 (by unfold maxLen; omega)
  have hlk := fun k => (mC.keep (Keep.drewN W1 k (fun _ => False)) (fun h => h)).look true lawK Tryd.underlying94 (zeroU _) hkl
  have hC0 : C (.agg #[.int .u64 d.path, .string f.name]) = none := hCn
  simp only [hC0] at hlk
  have a10 : W1.cell? ⟨s, 10, none⟩ = some (.map (some cb)) := cell_row rS
  have k0 : W1.cell? ⟨w.heap.size + 1, 0, none⟩ = some (.int .u64 d.path) := cell_row rK
  have k1 : W1.cell? ⟨w.heap.size + 1, 1, none⟩ = some (.string f.name) := cell_row rK
  have HS := Lib.hid rS
  have HN1 := Lib.hid rN
  have HF := Lib.hid rF
  have HK := Lib.hid rK
  have HM1 := Lib.hid mM
  have HC1 := Lib.hid mC
  have HW := Lib.hid kW
  have HZ := Lib.hid zW
  clear hW kW zW rS rN rF rK mM mC c2 c5 c10 hC0
  go_wp2_with fail
  go_quiet (fail)
  clear hlk a10 k0 k1
  generalize hV : World.drewN W1 _ = W2
  have kV : Keep W1 W2 (fun _ => False) := by rw [← hV]; exact Keep.drewN _ _ _
  have zV : W2.heap.size = w.heap.size + 2 := by rw [← hV]; exact HZ.out
  clear hV
  obtain ⟨rS, rN, rF, rK⟩ : row W2 s = _ ∧ row W2 nb = _ ∧ row W2 w.heap.size = _ ∧ row W2 (w.heap.size + 1) = _ := ⟨kV.row HS.out (fun h => h), kV.row HN1.out (fun h => h), kV.row HF.out (fun h => h), kV.row HK.out (fun h => h)⟩
  have b5 : W2.cell? ⟨nb, 5, none⟩ = some (.int .u32 d.mode) := cell_row rN
  have f3 : W2.cell? ⟨w.heap.size, 3, none⟩ = some (.int .u32 f.mode) := cell_row rF
  have f4 : W2.cell? ⟨w.heap.size, 4, none⟩ = some (.string f.uid) := cell_row rF
  have t3 : (bits .and .u32 d.mode 2147483648 == 0) = false := by unfold isDir at h1; cases hb : (bits .and .u32 d.mode 2147483648 == 0) <;> simp_all
  have HV := Lib.hid kV
  have HS2 := Lib.hid rS
  have HN2 := Lib.hid rN
  have HF2 := Lib.hid rF
  have HK2 := Lib.hid rK
  have HZ2 := Lib.hid zV
  have hB2 : GB B W2 := (hB.keep HW.out (fun _ h => h.elim)).keep HV.out (fun _ h => h.elim)
  have HB2 := Lib.hid hB2
  clear kV rS rN rF rK zV hB hB2 h1
  go_wp2_with (go_at_call 70; refine (mayMode_any _ _).mono ?_; rintro e w' ⟨rfl, rfl⟩)
  refine (mayUser_any _ _ B HB2.out su).mono ?_
  rintro e W3 ⟨rfl, hb3⟩
  have kV3 : Keep W2 W3 (fun _ => False) := Keep.of_below hb3 _
  have f5 : W3.cell? ⟨w.heap.size, 5, none⟩ = some (.string f.gid) := cell_row (kV3.row HF2.out (fun h => h))
  have HV3 := Lib.hid kV3
  clear hb3 kV3
  go_wp2_with fail
  refine (mayUser_any _ _ B (HB2.out.keep HV3.out (fun _ h => h.elim)) sg).mono ?_
  rintro e W4 ⟨rfl, hb4⟩
  have kV4 : Keep W2 W4 (fun _ => False) := HV3.out.trans (Keep.of_below hb4 _) (fun _ _ h => h)
  have f6 : W4.cell? ⟨w.heap.size, 6, none⟩ = some (.string f.muid) := cell_row (kV4.row HF2.out (fun h => h))
  have HV4 := Lib.hid kV4
  clear hb4 kV4 f5
  go_wp2_with fail
  refine (mayUser_any _ _ B (HB2.out.keep HV4.out (fun _ h => h.elim)) sm).mono ?_
  rintro e W5 ⟨rfl, hb5⟩
  have kV5 : Keep W2 W5 (fun _ => False) := HV4.out.trans (Keep.of_below hb5 _) (fun _ _ h => h)
  have f2 : W5.cell? ⟨w.heap.size, 2, none⟩ = some (.string f.name) := cell_row (kV5.row HF2.out (fun h => h))
  have HV5 := Lib.hid kV5
  clear hb5 kV5 f6
  go_wp2_with fail
  refine (check_any _ _ B (HB2.out.keep HV5.out (fun _ h => h.elim)) (by omega)).mono ?_
  rintro e W6 ⟨rfl, hb6⟩
  have kV6 : Keep W2 W6 (fun _ => False) := HV5.out.trans (Keep.of_below hb6 _) (fun _ _ h => h)
  have he0 : nameErr f.name = 0 := by simp [nameErr, h6]
  have s8 : W6.cell? ⟨s, 8, none⟩ = some (.map (some mb)) := cell_row (kV6.row HS2.out (fun h => h))
  have s6 : W6.cell? ⟨s, 6, none⟩ = some (.int .i64 most) := cell_row (kV6.row HS2.out (fun h => h))
  have s7 : W6.cell? ⟨s, 7, none⟩ = some (.int .u64 next) := cell_row (kV6.row HS2.out (fun h => h))
  have z7 : W6.frozen? ⟨s, 7, none⟩ = false := frozen_row (kV6.row HS2.out (fun h => h))
  have hlen := fun k => (((HM1.out.keep HV.out (fun h => h)).keep kV6 (fun h => h)).keep (Keep.drewN W6 k (fun _ => False)) (fun h => h)).len (ty := 3) Tryd.underlying93
  have HV6 := Lib.hid kV6
  rw [he0]
  clear hb6 kV6 f2 he0
  go_wp2_with fail
  go_quiet (fail)
  go_wp2_with fail
  generalize hV7 : (W6.drewN nq).setCell ⟨s, 7, none⟩ (.int .u64 (next + 1)) = W7
  have kV7 : Keep W2 W7 (· = s) := by
    rw [← hV7]
    exact (((HV6.out.mono (fun _ _ h => h.elim)).trans (Keep.drewN W6 _ (· = s)) (fun _ _ h => h)).thenCell _ _ (fun _ => rfl))
  have rS7 : row W7 s = some (storeC 1 (-1073741824) most (next + 1) mb ov cb, 101) := by
    rw [← hV7]; exact row_setCell (w := W6.drewN nq) (HV6.out.row HS2.out (fun h => h))
  have hns : nb ≠ s := hnes
  have lt2 := row_lt HS2.out
  have hfs : w.heap.size ≠ s := by omega
  have hks : w.heap.size + 1 ≠ s := by omega
  have rN7 := kV7.row HN2.out hns
  have rF7 := kV7.row HF2.out hfs
  have rK7 := kV7.row HK2.out hks
  have m7 : MapIs Tryd.prog 30 W7 mb n F := (HM1.out.keep HV.out (fun h => h)).keep kV7 hms
  have m7c : MapIs Tryd.prog 121 W7 cb m C := (HC1.out.keep HV.out (fun h => h)).keep kV7 hcs
  have q8 : W7.cell? ⟨s, 8, none⟩ = some (.map (some mb)) := cell_row rS7
  have q0 : W7.cell? ⟨w.heap.size + 1, 0, none⟩ = some (.int .u64 d.path) := cell_row rK7
  have p2 : W7.cell? ⟨w.heap.size, 2, none⟩ = some (.string f.name) := cell_row rF7
  have p3 : W7.cell? ⟨w.heap.size, 3, none⟩ = some (.int .u32 f.mode) := cell_row rF7
  have p4 : W7.cell? ⟨w.heap.size, 4, none⟩ = some (.string f.uid) := cell_row rF7
  have p5 : W7.cell? ⟨w.heap.size, 5, none⟩ = some (.string f.gid) := cell_row rF7
  have p6 : W7.cell? ⟨w.heap.size, 6, none⟩ = some (.string f.muid) := cell_row rF7
  have p7 : W7.cell? ⟨w.heap.size, 7, none⟩ = some (.int .u32 f.atime) := cell_row rF7
  have p8 : W7.cell? ⟨w.heap.size, 8, none⟩ = some (.int .u32 f.mtime) := cell_row rF7
  have lts : s < W7.heap.size := row_lt rS7
  have ltf : w.heap.size < W7.heap.size := row_lt rF7
  have ltk : w.heap.size + 1 < W7.heap.size := row_lt rK7
  have hml := HM.out.lt
  have hmk0 : ¬ w.heap.size = mb := by omega
  have hmk1 : ¬ w.heap.size + 1 = mb := by omega
  have HV7 := Lib.hid kV7
  have HS7 := Lib.hid rS7
  have HN7 := Lib.hid rN7
  have HF7 := Lib.hid rF7
  have HK7 := Lib.hid rK7
  have HM7 := Lib.hid m7
  have HC7 := Lib.hid m7c
  clear hV7 kV7 rS7 rN7 rF7 rK7 m7 m7c s6 s7 s8 z7 hlen hns hfs hks lt2 b5 f3 f4 t3
  go_region_held3 (fun w' => w'.cell? ⟨s, 8, none⟩ = some (.map (some mb)) ∧ w'.cell? ⟨w.heap.size + 1, 0, none⟩ = some (.int .u64 d.path) ∧ w'.cell? ⟨w.heap.size, 2, none⟩ = some (.string f.name) ∧
      w'.cell? ⟨w.heap.size, 3, none⟩ = some (.int .u32 f.mode) ∧ w'.cell? ⟨w.heap.size, 4, none⟩ = some (.string f.uid) ∧ w'.cell? ⟨w.heap.size, 5, none⟩ = some (.string f.gid) ∧ w'.cell? ⟨w.heap.size, 6, none⟩ = some (.string f.muid) ∧
      w'.cell? ⟨w.heap.size, 7, none⟩ = some (.int .u32 f.atime) ∧ w'.cell? ⟨w.heap.size, 8, none⟩ = some (.int .u32 f.mtime)) (first | go_keep | exact ⟨kk8.cell q8 (Ne.symm hms), kk8.cell q0 hmk1, kk8.cell p2 hmk0, kk8.cell p3 hmk0, kk8.cell p4 hmk0, kk8.cell p5 hmk0, kk8.cell p6 hmk0, kk8.cell p7 hmk0, kk8.cell p8 hmk0⟩)
    (first
      | (refine upon_storeM (n := n) (f := F) (f' := F' W7.heap.size) ?_ lawU Tryd.underlying93 (keyU x0 (by omega)) (hF1 _) (hF2 _) ?_
         · exact HM7.out.keep (Keep.thenDrew (Keep.alloc W7 _ (fun _ => False))) (fun h => h)
         intro w8 hm8 hk8 hz8
         have kk8 : Keep W7 w8 (· = mb) := hk8.after (fun _ _ h => h) (Keep.thenDrew (Keep.alloc W7 _ (· = mb)))))
  have kk8 : Keep W7 w8 (· = mb) := hk8.after (fun _ _ h => h) (Keep.thenDrew (Keep.alloc W7 _ (· = mb)))
  have rE8 : row w8 W7.heap.size = some (nodeC 0 (newEnt next d.path f).inf (.slice none 0 0) (.slice none 0 0), 92) :=
    hk8.row (row_alloc_at _ _ _ _ rfl) (fun h => by have h' : W7.heap.size = mb := h; have := HM7.out.lt; omega)
  have rS8 := kk8.row HS7.out (Ne.symm hms)
  have rK8 := kk8.row HK7.out hmk1
  have rN8 := kk8.row HN7.out hnm
  have mC8 := HC7.out.keep kk8 hcm
  have kall : Keep w W7 (· = s) := HV7.out.after (fun _ _ h => h) ((HW.out.trans HV.out (fun _ _ h => h)).mono (fun _ _ h => h.elim))
  have hov8 := ownsRow_keep kk8 (ownsRow_keep kall hov (fun g hg => (hovb g hg).1)) (fun g hg => (hovb g hg).2.1)
  have hkv8 := ownsRow_keep kk8 (ownsRow_keep kall hkv (fun g hg => (hkvb g hg).1)) (fun g hg => (hkvb g hg).2.1)
  have a9 : w8.cell? ⟨s, 9, none⟩ = some ov := cell_row rS8
  have hs8 : s < w8.heap.size := row_lt rS8
  have HM8 := Lib.hid hm8
  have HE8 := Lib.hid rE8
  have HS8 := Lib.hid rS8
  have HK8 := Lib.hid rK8
  have HN8 := Lib.hid rN8
  have HC8 := Lib.hid mC8
  have HKV8 := Lib.hid hkv8
  have kall8 : Keep w w8 (fun b => b = s ∨ b = mb) := kk8.after (fun _ _ h => .inr h) (kall.mono (fun _ _ h => .inl h))
  have HKA8 := Lib.hid kall8
  obtain ⟨i0, hi, hz0, hz1, hz2⟩ := info_parts Tryd.info30
  clear hm8 hk8 hz8 kall8 kk8 rE8 rS8 rK8 rN8 mC8 kall hkv8 q8 q0 p2 p3 p4 p5 p6 p7 p8
  go_wp2_with (first
    | (at_builtin; refine wpList_append_own_at _ rfl _ _ 63 rfl 0 30 i0 (.int .u64 0) 1 8 Tryd.underlying63 hi hz0 hz1 hz2 rfl (by decide) _ _ _ rfl (hov8.alloc _) ⟨w8.heap.size, 0, none⟩ 1 1 [.int .u64 next] rfl rfl (cell_one_new _ _ _) (by simp [Value.oneCell']) (by unfold maxLen; omega) (by omega) (Nat.zero_le _) ?_
       intro ov' w9 hov9 hg9 hnil9 hloc9
       have k9 : Keep w8 w9 (fun b => ov.ownBlock = some b) := (Keep.of_grown hg9 (fun _ h => h)).after (fun _ _ h => h) (Keep.alloc w8 _ _)
       have rS9 := k9.row HS8.out (fun h => (hovb _ h).1 rfl)
       have c9 : w9.cell? ⟨s, 9, none⟩ = some ov := cell_row rS9
       have z9 : w9.frozen? ⟨s, 9, none⟩ = false := frozen_row rS9
       obtain ⟨oa, oc, rfl⟩ := ownsRow_slice hov9
       clear hnil9))
  generalize hV10 : w9.setCell ⟨s, 9, none⟩ (.slice oa (n + 1) oc) = WX
  have k10 : Keep w8 WX (fun b => ov.ownBlock = some b ∨ b = s) := by
    rw [← hV10]; exact ((k9.mono (fun _ _ h => .inl h)).thenCell _ _ (fun _ => .inr rfl))
  have rS10 : row WX s = some (storeC 1 (-1073741824) most (next + 1) mb (.slice oa (n + 1) oc) cb, 101) := by
    rw [← hV10]; exact row_setCell rS9
  have z10 : w8.heap.size ≤ WX.heap.size := k10.size
  have hov10 : WX.ownsRow 0 30 1 (.slice oa (n + 1) oc) (n + 1) (xs ++ [.int .u64 next]) := by
    rw [← hV10]; exact ownsRow_keep (Keep.setCell w9 ⟨s, 9, none⟩ _ (· = s) (fun _ => rfl)) hov9 (fun g hg => by
      rcases hloc9 with h | h
      · exact (hovb g (h ▸ hg)).1
      · rw [h] at hg; cases hg; rw [World.size_alloc]; intro e; subst e; exact absurd (row_lt HS8.out) (by omega))
  have hloc : (Value.slice oa (n + 1) oc).ownBlock = ov.ownBlock ∨ ∃ g, (Value.slice oa (n + 1) oc).ownBlock = some g ∧ w8.heap.size ≤ g ∧ g < WX.heap.size := by
    rcases hloc9 with h | h
    · exact .inl h
    · exact .inr ⟨_, h, by simp, (hov10.lt _ h).2⟩
  have hkk : ov.ownBlock ≠ some (w.heap.size + 1) := fun h => by have := (hov.lt _ h).2; omega
  have hkk2 : w.heap.size + 1 ≠ s := by have := row_lt HR.out; omega
  have rK10 : row WX (w.heap.size + 1) = _ := k10.row HK8.out (fun h => h.elim hkk hkk2)
  have rN10 : row WX nb = _ := k10.row HN8.out (fun h => h.elim (fun h => (hovb _ h).2.2.2.1 rfl) hnes)
  have mC10 : MapIs Tryd.prog 121 WX cb m C := HC8.out.keep k10 (fun h => h.elim (fun h => (hovb _ h).2.2.1 rfl) hcs)
  have hkv10 := ownsRow_keep k10 HKV8.out (fun g hg h => h.elim (fun h => (hovb _ h).2.2.2.2 hg) (hkvb _ hg).1)
  have mM10 := HM8.out.keep k10 (fun h => h.elim (fun h => (hovb _ h).2.1 rfl) hms)
  have rE10 := k10.row HE8.out (fun h => h.elim (fun h => by have := (hov.lt _ h).2; omega) (fun h => by omega))
  have q10 : WX.cell? ⟨s, 10, none⟩ = some (.map (some cb)) := cell_row rS10
  have u0 : WX.cell? ⟨w.heap.size + 1, 0, none⟩ = some (.int .u64 d.path) := cell_row rK10
  have u1 : WX.cell? ⟨w.heap.size + 1, 1, none⟩ = some (.string f.name) := cell_row rK10
  have hsc : s ≠ cb := Ne.symm hcs
  have hkc : w.heap.size + 1 ≠ cb := by have := HC.out.lt; omega
  have H10 := Lib.hid (And.intro k10 (And.intro rS10 (And.intro rN10 (And.intro mC10 (And.intro hkv10 (And.intro mM10 (And.intro rE10 (And.intro hov10 hloc))))))))
  clear hV10 k10 rS10 rN10 mC10 hkv10 mM10 rE10 hov10 hloc hov9 hg9 hloc9 k9 rS9 c9 z9 rK10 hov8 a9
  go_region_held3 (fun w' => w'.cell? ⟨s, 10, none⟩ = some (.map (some cb)) ∧ w'.cell? ⟨w.heap.size + 1, 0, none⟩ = some (.int .u64 d.path) ∧ w'.cell? ⟨w.heap.size + 1, 1, none⟩ = some (.string f.name))
    (first | go_keep | exact ⟨kk11.cell q10 hsc, kk11.cell u0 hkc, kk11.cell u1 hkc⟩)
    (first
      | (refine upon_storeM (n := m) (f := C) (f' := C') ?_ lawK Tryd.underlying94 hkl hC1 hC2 ?_
         · exact H10.out.2.2.2.1.keep (Keep.drew WX (fun _ => False)) (fun h => h)
         intro w11 hm11 hk11 hz11
         have kk11 : Keep WX w11 (· = cb) := hk11.after (fun _ _ h => h) (Keep.drew WX (· = cb))))
  have kk11 : Keep WX w11 (· = cb) := hk11.after (fun _ _ h => h) (Keep.drew WX (· = cb))
  have rS11 := kk11.row H10.out.2.1 hsc
  have rN11 := kk11.row H10.out.2.2.1 hnc
  have hkv11 := ownsRow_keep kk11 H10.out.2.2.2.2.1 (fun g hg => (hkvb g hg).2.2.1)
  have mM11 := H10.out.2.2.2.2.2.1.keep kk11 (Ne.symm hcm)
  have rE11 := kk11.row H10.out.2.2.2.2.2.2.1 (fun h => by have h' : W7.heap.size = cb := h; have := HC7.out.lt; omega)
  have hov11 := ownsRow_keep kk11 H10.out.2.2.2.2.2.2.2.1 (fun g hg => by
    rcases H10.out.2.2.2.2.2.2.2.2 with h | ⟨g', h, h1, _⟩
    · exact (hovb g (h ▸ hg)).2.2.1
    · rw [h] at hg; cases hg; intro e; have := HC8.out.lt; have e' : g = cb := e; omega)
  have c15 : w11.cell? ⟨nb, 15, none⟩ = some kv := cell_row rN11
  have z11 : nb < w11.heap.size := row_lt rN11
  have H11 := Lib.hid (And.intro kk11 (And.intro rS11 (And.intro rN11 (And.intro hm11 (And.intro mM11 (And.intro rE11 hov11))))))
  clear hm11 hk11 hz11 kk11 rS11 rN11 mM11 rE11 hov11 q10 u0 u1
  go_wp2_with (first
    | (at_builtin; refine wpList_append_own_at _ rfl _ _ 63 rfl 0 30 i0 (.int .u64 0) 1 8 Tryd.underlying63 hi hz0 hz1 hz2 rfl (by decide) _ _ _ rfl (hkv11.alloc _) ⟨w11.heap.size, 0, none⟩ 1 1 [.int .u64 next] rfl rfl (cell_one_new _ _ _) (by simp [Value.oneCell']) (by unfold maxLen; omega) (by omega) (Nat.zero_le _) ?_
       intro kv' w12 hkv12 hg12 hnil12 hloc12
       have k12 : Keep w11 w12 (fun b => kv.ownBlock = some b) := (Keep.of_grown hg12 (fun _ h => h)).after (fun _ _ h => h) (Keep.alloc w11 _ _)
       have rN12 := k12.row H11.out.2.2.1 (fun h => (hkvb _ h).2.2.2 rfl)
       have c12 : w12.cell? ⟨nb, 15, none⟩ = some kv := cell_row rN12
       have z12 : w12.frozen? ⟨nb, 15, none⟩ = false := frozen_row rN12
       obtain ⟨qa, qc, rfl⟩ := ownsRow_slice hkv12
       clear hnil12))
  refine bodyPost_ret (results_tmp2 rfl _ _ _) rfl ⟨rfl, W7.heap.size, .slice oa (n + 1) oc, .slice qa (kn + 1) qc, ?_⟩
  generalize hV13 : w12.setCell ⟨nb, 15, none⟩ (.slice qa (kn + 1) qc) = WZ
  obtain ⟨j1, j2, j3, j4, j5, j6, j7⟩ := H11.out
  obtain ⟨l1, l2, l3, l4, l5, l6, l7, l8, l9⟩ := H10.out
  have k13 : Keep w11 WZ (fun b => kv.ownBlock = some b ∨ b = nb) := by
    rw [← hV13]; exact ((k12.mono (fun _ _ h => .inl h)).thenCell _ _ (fun _ => .inr rfl))
  have hw7 : w.heap.size ≤ W7.heap.size := by have := row_lt HF7.out; omega
  have hkvlt : ∀ g, kv.ownBlock = some g → g < w.heap.size := fun g hg => (hkv.lt _ hg).2
  have hovlt : ∀ g, ov.ownBlock = some g → g < w.heap.size := fun g hg => (hov.lt _ hg).2
  have hnlt := row_lt HN.out
  have hmlt := HM.out.lt
  have hclt := HC.out.lt
  have hsz8 : W7.heap.size < w8.heap.size := row_lt HE8.out
  have hsz11 : WX.heap.size ≤ w11.heap.size := j1.size
  have n13 : row WZ nb = some (nodeC 0 d (.slice qa (kn + 1) qc) bv, 92) := by
    rw [← hV13]; exact row_setCell rN12
  have hkz : WZ.ownsRow 0 30 1 (.slice qa (kn + 1) qc) (kn + 1) (ys ++ [.int .u64 next]) := by
    rw [← hV13]; exact ownsRow_keep (Keep.setCell w12 ⟨nb, 15, none⟩ _ (· = nb) (fun _ => rfl)) hkv12 (fun g hg e => by
      have e' : g = nb := e
      rcases hloc12 with h | h
      · exact (hkvb g (h ▸ hg)).2.2.2 e'
      · rw [h] at hg; cases hg; rw [World.size_alloc] at e'; omega)
  have hsz13 : w11.heap.size ≤ WZ.heap.size := k13.size
  have hoo : (Value.slice oa (n + 1) oc).ownBlock = ov.ownBlock ∨ ∃ g, (Value.slice oa (n + 1) oc).ownBlock = some g ∧ w8.heap.size ≤ g ∧ g < WX.heap.size := l9
  refine { srow := k13.row j2 (fun h => h.elim (fun h => (hkvb _ h).1 rfl) (fun h => hnes h.symm)), nrow := n13, erow := k13.row j6 (fun h => h.elim (fun h => by have := hkvlt _ h; omega) (fun h => by omega)), g0 := hw7, nodes := ?_, child := ⟨_, j4.keep k13 (fun h => h.elim (fun h => (hkvb _ h).2.2.1 rfl) (fun h => hnc h.symm))⟩, order := ?_, kids := hkz, oloc := ?_, kloc := ?_, keep := ?_ }
  · have := j5.keep k13 (fun h => h.elim (fun h => (hkvb _ h).2.1 rfl) (fun h => hnm h.symm))
    rwa [hFn] at this
  · refine ownsRow_keep k13 j7 (fun g hg h => ?_)
    rcases hoo with e | ⟨g', e, e1, e2⟩
    · rw [e] at hg
      exact h.elim (fun h => (hovb g hg).2.2.2.2 h) (hovb g hg).2.2.2.1
    · rw [e] at hg; cases hg
      exact h.elim (fun h => by have := hkvlt _ h; omega) (fun h => by omega)
  · rcases hoo with e | ⟨g', e, e1, e2⟩
    · exact .inl e
    · exact .inr ⟨g', e, by omega, by omega⟩
  · rcases hloc12 with e | e
    · exact .inl e
    · refine .inr ⟨_, e, by rw [World.size_alloc]; omega, (hkz.lt _ e).2, fun h => ?_⟩
      rw [World.size_alloc] at h
      rcases hoo with e3 | ⟨g', e3, e1, e2⟩
      · rw [e3] at h; have := hovlt _ h; omega
      · rw [e3] at h; cases h; omega
  · have q1 : Keep w WX (fun b => b = s ∨ b = mb ∨ b = cb ∨ b = nb ∨ ov.ownBlock = some b ∨ kv.ownBlock = some b) :=
      l1.after (fun _ _ h => h.elim (fun h => .inr (.inr (.inr (.inr (.inl h))))) .inl) (HKA8.out.mono (fun _ _ h => h.elim .inl (fun h => .inr (.inl h))))
    exact k13.after (fun _ _ h => h.elim (fun h => .inr (.inr (.inr (.inr (.inr h))))) (fun h => .inr (.inr (.inr (.inl h))))) (j1.after (fun _ _ h => .inr (.inr (.inl h))) q1)
end Go.Proofs.YtfbcdhcgmncklaaDoor
