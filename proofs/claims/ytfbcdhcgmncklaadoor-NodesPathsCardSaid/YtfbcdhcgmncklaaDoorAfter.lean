/- (*Store).After, (*Store).Child. -/
import Derived.Test.YtfbcdhcgmncklaaDoorSlices
import Derived.Test.YtfbcdhcgmncklaaDoorReadS
namespace Go.Proofs.YtfbcdhcgmncklaaDoor
open Go Go.RowKit Go.Nd Go.Maps Go.MuLone Go.RwLone
set_option maxRecDepth 100000

theorem kids_rise {A : St} (h : StOk A) (p : Int) : (kids A.l p).Pairwise (· < ·) := by
  unfold kids
  rw [List.pairwise_map]
  exact List.Pairwise.filter _ h.rise
theorem kids_len (A : St) (p : Int) : (kids A.l p).length ≤ A.l.length := by
  unfold kids; rw [List.length_map]; exact List.length_filter_le _ _
/-- What After answers. -/
def afterV (l : List Ent) (p last : Int) : Value := .tuple #[.int .u64 ((abv (kids l p) last).getD 0), .bool (abv (kids l p) last).isSome]
theorem kids_nil {A : St} (h : StOk A) {p : Int} (hf : find A.l p = none) : kids A.l p = [] := by
  unfold kids
  rw [List.map_eq_nil_iff, List.filter_eq_nil_iff]
  intro e he hk
  simp only [Ent.kidOf, Bool.and_eq_true, beq_iff_eq, bne_iff_ne] at hk
  obtain ⟨q, hq, h1, _⟩ := h.parent e he hk.2
  have := find_mem h hq
  rw [h1, hk.1, hf] at this
  cases this

set_option maxHeartbeats 4000000 in
theorem after_any {w : World} {own : Own} {s : Nat} {A : St} (h : Store w own s A) {p last : Int} (p0 : 0 ≤ p) (p1 : p < 18446744073709551616) :
    Calls Tryd.prog 24 #[.pointer (some ⟨s, 0, none⟩), .int .u64 p, .int .u64 last] w fun r w' => r = .returned (afterV A.l p last) ∧ Keep w w' (fun _ => False) := by
  obtain ⟨hA, mb, cb, ov, nb, hr⟩ := h
  have h0 := hr.srow
  have hs := row_lt h0
  have HW := Lib.hid (And.intro hA hr)
  have H0 := Lib.hid h0
  have hsW := h0
  clear hr h0 hA
  go_enter_defers Tryd.func24, Tryd.ntmps24
  go_wp2_with fail
  refine (rlock_row hsW).mono ?_
  rintro e w1 ⟨rfl, r1, t1⟩
  have c8 : w1.cell? ⟨s, 8, none⟩ = some (.map (some mb)) := cell_row r1
  have hms : mb ≠ s := fun e => by have := HW.out.2.mown; rw [e, HW.out.2.sown] at this; cases this
  have mM := HW.out.2.mmap.keep t1.keep hms
  have hlk := mM.look false lawU Tryd.underlying93 (zeroPN _) (keyU p0 p1)
  have HT1 := Lib.hid t1
  have HR1 := Lib.hid r1
  clear t1 r1 mM hsW
  cases hfd : find A.l p with
  | none =>
    have hF : nodesF A.l nb (.int .u64 p) = none := by simp [nodesF, hfd]
    simp only [hF] at hlk
    have HD := Lib.hid hfd
    clear hfd hF
    go_wp2_with fail
    refine leaves_cons (f := 37) (args := #[.pointer (some ⟨s, 0, none⟩)]) (by simp) (by simp [go_sem]) ?_
    refine (runlock_row .returning HR1.out).mono ?_
    rintro e u' w3 ⟨rfl, rfl, h3, t3⟩
    refine ⟨_, results_tmp2 rfl _ _ _, ?_, (HT1.out.trans t3).keep.back H0.out h3 _⟩
    unfold afterV
    rw [kids_nil HW.out.1 HD.out]
    rfl
  | some d =>
    obtain ⟨hd, hdp⟩ := find_path hfd
    have hF : nodesF A.l nb (.int .u64 p) = some (.pointer (some ⟨nb p, 0, none⟩)) := by simp [nodesF, hfd]
    simp only [hF] at hlk
    clear hfd hF
    obtain ⟨kv, bv, bs, hdr⟩ := HW.out.2.node d hd
    rw [hdp] at hdr
    have hns : nb p ≠ s := fun e => by have := hdr.nown; rw [e, HW.out.2.sown] at this; cases this
    have rn2 := HT1.out.keep.row hdr.nrow hns
    have c15 : w1.cell? ⟨nb p, 15, none⟩ = some kv := cell_row rn2
    have hkv := ownsRow_keep HT1.out.keep hdr.nkids (fun g hg h => by
      have := hdr.kown g hg
      have h' : g = s := h
      rw [h', HW.out.2.sown] at this; cases this)
    rw [hdp] at hkv
    have hab := above_any w1 hkv (kids_rise HW.out.1 p) (by have := kids_len A p; have := HW.out.1.len; have := HW.out.1.most1; omega) last
    have HAB := Lib.hid hab
    clear hdr rn2 hkv hab
    go_wp2_with fail
    refine HAB.out.mono ?_
    rintro e w2 ⟨rfl, rfl⟩
    unfold abvV
    go_wp2_with fail
    refine leaves_cons (f := 37) (args := #[.pointer (some ⟨s, 0, none⟩)]) (by simp) (by simp [go_sem]) ?_
    refine (runlock_row .returning HR1.out).mono ?_
    rintro e u' w3 ⟨rfl, rfl, h3, t3⟩
    exact ⟨_, results_tmp2 rfl _ _ _, rfl, (HT1.out.trans t3).keep.back H0.out h3 _⟩

/-- What Child answers. -/
def childV (l : List Ent) (p : Int) (s : ByteArray) : Value := .tuple #[.int .u64 ((child l p s).getD 0), .bool (child l p s).isSome]
theorem built_key (p : Int) (s : ByteArray) : Tryd.prog.built 121 [(0, .int .u64 p), (1, .string s)] = some #[.int .u64 p, .string s] := by kernel_rfl
set_option maxHeartbeats 4000000 in
theorem child_any {w : World} {own : Own} {s : Nat} {A : St} (h : Store w own s A) {p : Int} (p0 : 0 ≤ p) (p1 : p < 18446744073709551616) {nm : ByteArray} (hnm : nm.size ≤ maxLen) :
    Calls Tryd.prog 51 #[.pointer (some ⟨s, 0, none⟩), .int .u64 p, .string nm] w fun r w' => r = .returned (childV A.l p nm) ∧ Keep w w' (fun _ => False) := by
  obtain ⟨hA, mb, cb, ov, nb, hr⟩ := h
  have h0 := hr.srow
  have hs := row_lt h0
  have HW := Lib.hid (And.intro hA hr)
  have H0 := Lib.hid h0
  have hsW := h0
  clear hr h0 hA
  go_enter_defers Tryd.func51, Tryd.ntmps51
  go_wp2_with fail
  refine (rlock_row hsW).mono ?_
  rintro e w1 ⟨rfl, r1, t1⟩
  have c10 : w1.cell? ⟨s, 10, none⟩ = some (.map (some cb)) := cell_row r1
  have hcs : cb ≠ s := fun e => by have := HW.out.2.cown; rw [e, HW.out.2.sown] at this; cases this
  obtain ⟨m, hcm⟩ := HW.out.2.cmap
  have mM := hcm.keep t1.keep hcs
  obtain ⟨kl, hkl⟩ := keyK p0 p1 hnm
  have hlk := mM.look true lawK Tryd.underlying94 (Tryd.zeroValue30 _) hkl
  have hcf : childF A.l (.agg #[.int .u64 p, .string nm]) = (child A.l p nm).map (.int .u64) := rfl
  rw [hcf] at hlk
  have HT1 := Lib.hid t1
  have HR1 := Lib.hid r1
  obtain ⟨o, ho⟩ : ∃ o, o = child A.l p nm := ⟨_, rfl⟩
  have hv : childV A.l p nm = .tuple #[.int .u64 (o.getD 0), .bool o.isSome] := by rw [ho]; rfl
  rw [← ho] at hlk
  have HV := Lib.hid hv
  clear t1 r1 mM hsW hcm hcf hkl hv ho
  cases o with
  | none =>
    simp only [Option.map_none, Option.getD_none, Option.isSome_none, if_true] at hlk
    go_wp2_with (first
      | ((with_reducible apply wpList_buildS (built_key _ _)); · rfl))
    refine leaves_cons (f := 37) (args := #[.pointer (some ⟨s, 0, none⟩)]) (by simp) (by simp [go_sem]) ?_
    refine (runlock_row .returning HR1.out).mono ?_
    rintro e u' w3 ⟨rfl, rfl, h3, t3⟩
    exact ⟨_, results_tmp2 rfl _ _ _, by rw [HV.out]; rfl, (HT1.out.trans t3).keep.back H0.out h3 _⟩
  | some q =>
    simp only [Option.map_some, Option.getD_some, Option.isSome_some, if_true] at hlk
    go_wp2_with (first
      | ((with_reducible apply wpList_buildS (built_key _ _)); · rfl))
    refine leaves_cons (f := 37) (args := #[.pointer (some ⟨s, 0, none⟩)]) (by simp) (by simp [go_sem]) ?_
    refine (runlock_row .returning HR1.out).mono ?_
    rintro e u' w3 ⟨rfl, rfl, h3, t3⟩
    exact ⟨_, results_tmp2 rfl _ _ _, by rw [HV.out]; rfl, (HT1.out.trans t3).keep.back H0.out h3 _⟩
end Go.Proofs.YtfbcdhcgmncklaaDoor
