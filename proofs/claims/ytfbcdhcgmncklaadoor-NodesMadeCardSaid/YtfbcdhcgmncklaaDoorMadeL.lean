/- The law NodesMade, walked. -/
import Derived.Test.YtfbcdhcgmncklaaDoorRNew
namespace Go.Proofs.YtfbcdhcgmncklaaDoor
open Go Go.RowKit Go.Nd Go.Maps Go.MuLone Go.RwLone
set_option maxRecDepth 100000

set_option maxHeartbeats 4000000 in
theorem ofConfig_any (w : World) (c : Conf) (su : c.users.size ≤ 140737488351232) (so : c.owner.size ≤ 140737488351232) (sg : c.group.size ≤ 140737488351232) :
    Calls Tryd.prog 12 #[.agg c.cells.toArray] w fun e w' => e = .returned (.int .i64 (100 + c.users.size + c.owner.size + c.group.size)) ∧ Keep w w' (fun _ => False) := by
  simp only [Conf.cells]
  go_enter Tryd.func12, Tryd.ntmps12
  go_wp2_with fail
  go_ret
  exact ⟨rfl, Keep.alloc _ _ _⟩

theorem new_bad (c : Conf) (w : World) (B : Nat) (hB : GB B w) (so : c.owner.size ≤ 4611686018427387904) (sg : c.group.size ≤ 4611686018427387904) (h : c.ok = false) :
    Calls Tryd.prog 13 #[.agg c.cells.toArray] w fun e w' => e = .returned (.tuple #[.pointer none, .int .i64 1]) ∧ Below w.heap.size w w' := by
  by_cases h1 : c.nodes < 1 ∨ 4096 < c.nodes ∨ (bits .andNot .u32 c.perm 511 == 0) = false
  · exact new_bad1 c w h1
  · simp only [not_or, Bool.not_eq_false] at h1
    refine new_bad2 c w B hB so sg (by omega) (by omega) h1.2.2 ?_
    cases e1 : c.owner.toList.isEmpty with
    | true => exact .inl rfl
    | false => cases e2 : c.group.toList.isEmpty with
      | true => exact .inr (.inl rfl)
      | false => cases e3 : userOk c.owner with
        | false => exact .inr (.inr (.inl rfl))
        | true => cases e4 : userOk c.group with
          | false => exact .inr (.inr (.inr rfl))
          | true =>
            have a1 : 1 ≤ c.nodes := by omega
            have a2 : c.nodes ≤ 4096 := by omega
            simp [Conf.ok, a1, a2, h1.2.2, e1, e2, e3, e4] at h
theorem conf_ok {c : Conf} (h : c.ok = true) : 1 ≤ c.nodes ∧ c.nodes ≤ 4096 ∧ (bits .andNot .u32 c.perm 511 == 0) = true ∧ c.owner.toList.isEmpty = false ∧ c.group.toList.isEmpty = false ∧ userOk c.owner = true ∧ userOk c.group = true := by
  simp only [Conf.ok, Bool.and_eq_true, decide_eq_true_eq, Bool.not_eq_true'] at h
  obtain ⟨⟨⟨⟨⟨⟨h1, h2⟩, h3⟩, h4⟩, h5⟩, h6⟩, h7⟩ := h
  exact ⟨h1, h2, h3, h4, h5, h6, h7⟩
theorem root_told (c : Conf) : tellOf (St.new c).l 1 = (rootEnt c).inf := rfl
theorem inf_all (f : Inf) (T : TypeId) : (((some (f.cells.toArray, T)).getD (#[], 0)).1).extract 0 (0 + 13) = f.cells.toArray := rfl
theorem conf_all (c : Conf) (T : TypeId) : (((some (c.cells.toArray, T)).getD (#[], 0)).1).extract 0 (0 + 10) = c.cells.toArray := rfl

set_option maxHeartbeats 8000000 in
theorem made_any (w : World) (B : Nat) (hB : GB B w) (c : Conf) (su : c.users.size ≤ 140737488351232) (so : c.owner.size ≤ 140737488351232) (sg : c.group.size ≤ 140737488351232) (p0 : 0 ≤ c.perm) (p1 : c.perm < 4294967296) :
    Calls Tryd.prog 4 #[.agg c.cells.toArray] w fun e w' => e = .returned (.bool true) ∧ Keep w w' (fun _ => False) := by
  obtain ⟨W0, hW0⟩ : ∃ W0, W0 = w.alloc (.cells c.cells.toArray 32) := ⟨_, rfl⟩
  have k0 : Keep w W0 (fun _ => False) := by rw [hW0]; exact Keep.alloc _ _ _
  have r0 : row W0 w.heap.size = some (c.cells.toArray, 32) := by rw [hW0]; exact row_alloc_at _ _ _ _ rfl
  have hB0 := hB.keep k0 (fun _ h => h.elim)
  have H := Lib.hid (And.intro k0 (And.intro r0 hB0))
  clear k0 r0 hB0 hB
  go_enter Tryd.func4, Tryd.ntmps4
  go_wp2_with fail
  rw [← hW0]
  clear hW0
  refine (works_any W0 B H.out.2.2).mono ?_
  rintro e w1 ⟨rfl, k1⟩
  have H1 := Lib.hid (And.intro (H.out.1.trans k1 (fun _ _ h => h)) (And.intro (k1.row H.out.2.1 (fun h => h)) (H.out.2.2.keep k1 (fun _ h => h.elim))))
  clear k1 H
  go_wp2_with (first
    | ((with_reducible apply wpList_loadS Tryd.isAgg32 Tryd.sizeOf32); (· rfl); (· rw [H1.out.2.1]; rfl); (rw [H1.out.2.1, conf_all])))
  refine (ofConfig_any w1 c su so sg).mono ?_
  rintro e w2 ⟨rfl, k2⟩
  have H2 := Lib.hid (And.intro (H1.out.1.trans k2 (fun _ _ h => h)) (And.intro (k2.row H1.out.2.1 (fun h => h)) (H1.out.2.2.keep k2 (fun _ h => h.elim))))
  clear k2 H1
  by_cases hr : (8388608 : Int) < 100 + c.users.size + c.owner.size + c.group.size
  · go_wp2_with fail
    go_ret
    exact ⟨rfl, H2.out.1⟩
  go_wp2_with (first
    | ((with_reducible apply wpList_loadS Tryd.isAgg32 Tryd.sizeOf32); (· rfl); (· rw [H2.out.2.1]; rfl); (rw [H2.out.2.1, conf_all])))
  cases hok : c.ok with
  | false =>
    have HO := Lib.hid hok
    clear hok
    refine (new_bad c w2 B H2.out.2.2 (by omega) (by omega) HO.out).mono ?_
    rintro e w3 ⟨rfl, b3⟩
    have k3 := Keep.of_below b3 (fun _ => False)
    have H3 := Lib.hid (And.intro (H2.out.1.trans k3 (fun _ _ h => h)) (And.intro (k3.row H2.out.2.1 (fun h => h)) (H2.out.2.2.keep k3 (fun _ h => h.elim))))
    clear k3 b3 H2
    go_wp2_with (first
      | ((with_reducible apply wpList_loadS Tryd.isAgg32 Tryd.sizeOf32); (· rfl); (· rw [H3.out.2.1]; rfl); (rw [H3.out.2.1, conf_all])))
    refine (newR_bad c w3 (by omega) (by omega) ((okR_ok p0 p1).trans HO.out)).mono ?_
    rintro e w4 ⟨rfl, k4⟩
    have HE := Lib.hid (H3.out.1.trans k4 (fun _ _ h => h))
    clear k4 H3
    go_wp2_with fail
    go_ret
    exact ⟨rfl, HE.out⟩
  | true =>
    obtain ⟨o1, o2, o3, o4, o5, o6, o7⟩ := conf_ok hok
    have o8 : c.perm ≤ 511 := by rw [perm_iff p0 p1] at o3; simpa using o3
    have HO := Lib.hid (And.intro o3 (And.intro o4 (And.intro o5 (And.intro o6 o7))))
    clear hok o3 o4 o5 o6 o7
    refine (new_ok c w2 B H2.out.2.2 (by omega) (by omega) o1 o2 HO.out.1 HO.out.2.1 HO.out.2.2.1 HO.out.2.2.2.1 HO.out.2.2.2.2).mono ?_
    rintro e w3 ⟨s, own, rfl, b3, hst, hge⟩
    have k3 := Keep.of_below b3 (fun _ => False)
    have H3 := Lib.hid (And.intro (H2.out.1.trans k3 (fun _ _ h => h)) (And.intro (k3.row H2.out.2.1 (fun h => h)) hst))
    clear k3 b3 H2 hst hge
    go_wp2_with (first
      | ((with_reducible apply wpList_loadS Tryd.isAgg32 Tryd.sizeOf32); (· rfl); (· rw [H3.out.2.1]; rfl); (rw [H3.out.2.1, conf_all])))
    refine (newR_ok c w3 (by omega) (by omega) o1 o2 o8 HO.out.2.1 HO.out.2.2.1 HO.out.2.2.2.1 HO.out.2.2.2.2).mono ?_
    rintro e w4 ⟨rs, rg, rfl, k4, hrs, hrg, _, _⟩
    have H4 := Lib.hid (And.intro (H3.out.1.trans k4 (fun _ _ h => h)) (And.intro (H3.out.2.2.keep k4 (fun _ _ h => h)) (And.intro hrs hrg)))
    clear k4 H3 hrs hrg
    go_wp2_with fail
    refine (node_any H4.out.2.1 (p := 1) (by decide) (by decide)).mono ?_
    rintro e w5 ⟨rfl, k5⟩
    rw [root_told, show (find (St.new c).l 1).isSome = true from rfl]
    have H5 := Lib.hid (And.intro (H4.out.1.trans k5 (fun _ _ h => h)) (And.intro (H4.out.2.1.keep k5 (fun _ _ h => h)) (And.intro (k5.row H4.out.2.2.1 (fun h => h)) (k5.row H4.out.2.2.2 (fun h => h)))))
    clear k5 H4
    have hrp : (rootEnt c).inf.path = 1 := rfl
    obtain ⟨f, hf⟩ : ∃ f, f = (rootEnt c).inf := ⟨_, rfl⟩
    rw [← hf] at H5 hrp ⊢
    have HF := Lib.hid hf
    clear hf
    go_wp2_with (first
      | ((with_reducible apply wpList_storeS size41); (· rfl); (· rfl); (· rfl); (· rfl); (· simp [go_sem])))
    obtain ⟨W6, hW6⟩ : ∃ W6, W6 = w5.alloc (.cells f.cells.toArray 41) := ⟨_, rfl⟩
    have k6 : Keep w5 W6 (fun _ => False) := by rw [hW6]; exact Keep.alloc _ _ _
    have r6 : row W6 w5.heap.size = some (f.cells.toArray, 41) := by rw [hW6]; exact row_alloc_at _ _ _ _ rfl
    rw [← hW6]
    refine (nodeR_root W6 f rs rg 1 _ _ [Value.slice none 0 0] hrp (by omega) (by omega) (k6.row H5.out.2.2.1 (fun h => h)) (k6.row H5.out.2.2.2 (fun h => h))).mono ?_
    rintro e w7 ⟨rfl, k7⟩
    have k67 := k6.trans k7 (fun _ _ h => h)
    have hz7 := row_lt (k7.row r6 (fun h => h))
    have H7 := Lib.hid (And.intro (H5.out.1.trans k67 (fun _ _ h => h)) (And.intro (H5.out.2.1.keep k67 (fun _ _ h => h)) (k7.row r6 (fun h => h))))
    clear k6 r6 hW6 k7 k67 H5
    go_wp2_with (first
      | ((with_reducible apply wpList_storeS size41); (· rfl); (· rfl); (· rfl); (· rfl); (· simp [go_sem])))
    obtain ⟨W8, hW8⟩ : ∃ W8, W8 = w7.alloc (.cells f.cells.toArray 41) := ⟨_, rfl⟩
    have k8 : Keep w7 W8 (fun _ => False) := by rw [hW8]; exact Keep.alloc _ _ _
    have r8 : row W8 w7.heap.size = some (f.cells.toArray, 41) := by rw [hW8]; exact row_alloc_at _ _ _ _ rfl
    rw [← hW8]
    have st8 := H7.out.2.1.keep k8 (fun _ _ h => h)
    refine (next_any st8).mono ?_
    rintro e w9 ⟨rfl, k9⟩
    rw [show (St.new c).next = 2 from rfl]
    have k89 := k8.trans k9 (fun _ _ h => h)
    have H9 := Lib.hid (And.intro (H7.out.1.trans k89 (fun _ _ h => h)) (And.intro (H7.out.2.1.keep k89 (fun _ _ h => h)) (And.intro (k89.row H7.out.2.2 (fun h => h)) (k9.row r8 (fun h => h)))))
    clear k8 r8 hW8 k9 k89 H7 st8
    go_wp2_with fail
    refine (count_any H9.out.2.1).mono ?_
    rintro e w10 ⟨rfl, k10⟩
    rw [show (((St.new c).l.length : Nat) : Int) = 1 from rfl]
    have q1 := k10.row H9.out.2.2.1 (fun h => h)
    have q2 := k10.row H9.out.2.2.2 (fun h => h)
    have HQ := Lib.hid (And.intro q1 q2)
    have HE := Lib.hid (H9.out.1.trans k10 (fun _ _ h => h))
    have heq1 := run_eql41 w10 f f
    rw [Inf.eqB_refl] at heq1
    have heq := Lib.hid heq1
    clear heq1
    clear k10 H9 q1 q2
    go_wp2_with (first
      | ((with_reducible apply wpList_loadSg Tryd.isAgg41 Tryd.sizeOf41); (· rfl); (· rfl); (· rw [HQ.out.1]; rfl); (rw [HQ.out.1, inf_all]))
      | ((with_reducible apply wpList_loadSg Tryd.isAgg41 Tryd.sizeOf41); (· rfl); (· rfl); (· rw [HQ.out.2]; rfl); (rw [HQ.out.2, inf_all]))
      | ((with_reducible apply wpList_eqlS (xs := f.cells.toArray) (ys := f.cells.toArray) (r := true)); (· rfl); (· exact guard41); (· rfl); (· rfl); (· exact heq.out)))
    go_ret
    exact ⟨rfl, HE.out⟩
end Go.Proofs.YtfbcdhcgmncklaaDoor
