/- NodesPaths: at every list of numbers the walk says true. No condition on the list. The card is tied to the program's text. -/
import Derived.Test.YtfbcdhcgmncklaaDoorOpen
import Derived.Test.YtfbcdhcgmncklaaDoorPathsL
namespace Go.Proofs.YtfbcdhcgmncklaaDoor
open Go.ChangeShapes Go.WideShapes Go.ChangeAt Go.RowKit Go.Nd
set_option maxRecDepth 100000

theorem Small.ints {H : Type} {P : Program} {t e : TypeId} {xs ys : List (DataW H)} (h : Small P t (.slice xs ys)) (ht : P.underlying t = some (.slice e)) (he : P.bytesOf e = 8) : xs.length ≤ 17592186044416 := by
  have := h ((xs.length + ys.length) * P.bytesOf e) (by simp [DataW.weights, ht])
  have e' : reachBytes = 140737488351232 := by decide
  rw [e', he] at this
  omega
theorem i64_wf {n : Int} (h : (Lit.int .i64 n).wf = true) : -9223372036854775808 ≤ n ∧ n < 9223372036854775808 := by
  simp [Lit.wf, IntKind.min, IntKind.max, IntKind.signed, IntKind.bits] at h
  omega
/-- A list of numbers that comes in: its address and its numbers. -/
theorem ints_open {H : Type} {enc : TypeId × Value → H} {w : World} {base : Nat} {fuel : Nat} {cs : List Value} {x : DataW H × List MemPlace}
    (h : DataW.trod enc Tryd.prog w base (fun _ => true) true fuel 62 cs = some x) (hs : Small Tryd.prog 62 x.1) :
    ∃ (va : Option Addr) (ds : List Int) (cap db doff : Nat), cs = [.slice va ds.length cap] ∧ ds.length ≤ 4611686018427387904 ∧
      ∀ i, i < ds.length → va = some ⟨db, doff, none⟩ ∧ w.cell? ⟨db, doff + i, none⟩ = some (.int .i64 (ds.getD i 0)) ∧ -9223372036854775808 ≤ ds.getD i 0 ∧ ds.getD i 0 < 9223372036854775808 := by
  rcases Go.ChangeShapes.open_ints Tryd.underlying62 Tryd.underlying3 (by kernel_rfl) h with ⟨rfl, rfl⟩ | ⟨a, len, cap, zs, rfl, hb, hl, hm, hz, rfl, hcell, hwf⟩
  · exact ⟨none, [], 0, 0, 0, rfl, by simp, fun i hi => by simp at hi⟩
  · simp only [if_true] at hz
    have hlen : (zs.take len).length = len := by rw [List.length_take]; omega
    have hsm : len ≤ 17592186044416 := by
      have := Small.ints hs Tryd.underlying62 (by kernel_rfl)
      rw [lits, List.length_map, hlen] at this
      exact this
    by_cases h0 : 0 < zs.length
    · obtain ⟨b, off, rfl, hc⟩ := ints_at hcell h0
      refine ⟨some ⟨b, off, none⟩, zs.take len, cap, b, off, by rw [hlen], by omega, fun i hi => ?_⟩
      have hi' : i < zs.length := by omega
      have e : (zs.take len).getD i 0 = zs.getD i 0 := by
        simp only [List.getD_eq_getElem?_getD]
        rw [List.getElem?_take_of_lt (by omega)]
      rw [e]
      have hm' : zs.getD i 0 ∈ zs := by simp only [List.getD_eq_getElem?_getD, List.getElem?_eq_getElem hi', Option.getD_some]; exact List.getElem_mem hi'
      exact ⟨rfl, hc i hi', (i64_wf (hwf _ hm')).1, (i64_wf (hwf _ hm')).2⟩
    · obtain rfl : len = 0 := by omega
      exact ⟨some a, [], cap, 0, 0, rfl, by simp, fun i hi => by simp at hi⟩

theorem paths_lifted (os : Os) (started : os.Started) (H : Type) (enc : TypeId × Value → H) :
    ReturnsInHanded {} Tryd.checked os 6 .any (fun w args => (Rows.nodesPathsSpec.pre enc Tryd.prog Tryd.f6 [] false w args ∧ laidMetH Tryd.prog laidL w) ∧ sizedMet enc Tryd.prog Tryd.f6 (OpenSpec.ofChange Rows.nodesPathsSpec) false w args)
      (Rows.nodesPathsSpec.post enc Tryd.prog Tryd.f6 false true false false) := by
  refine returnsInHanded_of_change_and (C := Tryd.checked) (X := fun w _ => laidMetH Tryd.prog laidL w) (fun _ _ _ hh h => h.of_heap hh) own started (by kernel_rfl) Tryd.func6
    (ChangeSpec.witness_shaped (enc := enc) (C := Tryd.checked) (os := os) (X := fun w _ => laidMetH Tryd.prog laidL w) false (laidW os) #[.slice none 0 0] 8 (World.laidAll_os _ _ _)
      (World.shaped_of_ZipB (by kernel_rfl) (by kernel_rfl)) (by kernel_rfl) (by kernel_rfl) (by kernel_rfl) (laidW_met os _)) ?_
  intro W base args ds gs before hval0 hW hc hz hL _
  have hval : ∀ (j : Nat) t v, Tryd.f6.params[j]? = some t → args[j]? = some v → Value.okWide Tryd.prog W .any base t v := hval0
  have hW' := hW
  obtain ⟨p, q, hA0, hV, rfl, _, _⟩ := hW
  have hA : DataW.TrodAll enc Tryd.prog W 0 (fun _ => true) true Tryd.f6.params.toList args.toList ds p := hA0
  rw [Tryd.params6] at hA hval hz
  obtain ⟨v0, d0, rfl, rfl, h0⟩ := trodAll_one hA
  obtain ⟨rfl, rfl⟩ := trodVars_none hV
  have hlt : ∀ x ∈ p, x.block < W.heap.size := DataW.TrodAll.lt hA
  obtain ⟨fuel, hf⟩ := h0
  have hsm : Small Tryd.prog 62 d0 := Small.arg hz (j := 0) rfl rfl
  obtain ⟨va, ls, cap, db, doff, hcc, hlen, hls⟩ := ints_open hf hsm
  have hv0 : v0 = .slice va ls.length cap := by
    have hk := okWide_slice Tryd.underlying62 (hval 0 _ _ rfl rfl)
    obtain ⟨a', l', c', rfl⟩ := hk
    simpa [Value.cells] using hcc
  subst hv0
  refine (paths_any W W.heap.size (g_of_laid hL) va ls cap db doff hlen hls).mono fun e W' ⟨he, hw⟩ => ?_
  subst he
  have e1 : Rows.nodesPathsSpec.fn H ([d0] ++ []) = { results := [.lit (.bool true)], args := [d0] } := rfl
  refine ⟨_, rfl, _, _, _, [], p, [], hW', ?_, ?_, ?_, hw.below.frame _, fun h => by cases h⟩
  · rw [e1]; exact trodAll_mk1 (shut_bool Tryd.underlying4 true)
  · rw [e1]; exact trodAll_mk1 (Below.trod laidOut (by kernel_rfl) (of_decide_eq_true (by kernel_rfl)) ⟨fuel, hf⟩ hw.below hlt)
  · rw [e1]; rfl
theorem paths_row : Rows.NodesPathsSaid :=
  OpenClaim.holds_of_wide 6 Tryd.f6 rfl rfl rfl rfl rfl rfl rfl ⟨rfl, rfl, rfl, rfl, rfl⟩ rfl rfl rfl rfl rfl (by kernel_rfl) Tryd.func6 (by kernel_rfl)
    (of_decide_eq_true (by kernel_rfl)) (by unfold Func.isWrapper; first | (rw [if_pos (by decide +kernel)]; kernel_rfl) | (rw [if_neg (by decide +kernel)]; exact ⟨rfl, rfl⟩))
    (fun os started H enc _ => paths_lifted os started H enc)
theorem paths_holds : Rows.NodesPathsCardSaid :=
  Claim7.holds_tied_plain_at .later [] [.data, .pinned] true Rows.nodesPathsCard.stood.harness false paths_row (fun _ h => by cases h) (by kernel_rfl) (fun _ h => by cases h) nodesPaths_row_tie rfl ⟨rfl, rfl⟩ (by kernel_rfl) rfl
    (fun f fn hf hfn => by
      obtain rfl : f = 6 := Option.some.inj ((show Tryd.prog.funcNamed "verger/vergerlaw08.NodesPaths" = some 6 by kernel_rfl).symm.trans hf) |>.symm
      obtain rfl : fn = Tryd.f6 := (Option.some.inj (Tryd.func6.symm.trans hfn)).symm
      exact ⟨by kernel_rfl, fun j t ht => by
        rw [Tryd.params6] at ht
        have hm : t ∈ [62] := by simpa using Array.mem_of_getElem? ht
        have hall : ([62].all fun u => !Tryd.prog.wantsStandIn u) = true := by kernel_rfl
        exact (show Tryd.prog.wantsStandIn t = false by simpa using List.all_eq_true.1 hall t hm)⟩)
    (by kernel_rfl)
end Go.Proofs.YtfbcdhcgmncklaaDoor
