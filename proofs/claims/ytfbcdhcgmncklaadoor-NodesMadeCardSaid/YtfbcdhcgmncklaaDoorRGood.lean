/- The reference's Good and user. -/
import Derived.Test.YtfbcdhcgmncklaaDoorChar
import Derived.Test.YtfbcdhcgmncklaaDoorPure
namespace Go.Proofs.YtfbcdhcgmncklaaDoor
open Go Go.RowKit Go.Nd
set_option maxRecDepth 100000

/-- What the reference's Bad answers. -/
def badR (s : ByteArray) : Int := if bad s < 0 then s.size else bad s

theorem badFrom_step {s : ByteArray} {f pos : Nat} (h : pos < s.size) : (chr s pos = 0 ∨ byt s pos = 0 → badFrom s (f + 1) pos = pos) ∧ (¬ (chr s pos = 0 ∨ byt s pos = 0) → badFrom s (f + 1) pos = badFrom s f (pos + chr s pos)) := by
  have hok := chr_ok s pos
  unfold ChrOk at hok
  have hu : badFrom s (f + 1) pos = if (Utf8.decode s pos).1 = 0 then (pos : Int) else if (Utf8.decode s pos).1 = 65533 ∧ (Utf8.decode s pos).2 = 1 then (pos : Int) else badFrom s f (pos + (Utf8.decode s pos).2) := by
    conv => lhs; unfold badFrom
    rw [if_pos h]
  rw [hu]
  rcases hok with ⟨h0, hd⟩ | ⟨h0, h1, h2, h3⟩
  · refine ⟨fun _ => ?_, fun hn => absurd (.inl h0) hn⟩
    rw [hd]; simp
  · refine ⟨fun hh => ?_, fun hn => ?_⟩
    · rw [if_pos (h3.2 (by rcases hh with hh | hh; exact absurd hh h0; exact hh))]
    · rw [if_neg (fun e => hn (.inr (h3.1 e))), if_neg h2, h1]

theorem chr_le {s : ByteArray} {pos : Nat} (h : pos < s.size) : pos + chr s pos ≤ s.size := by
  unfold chr
  by_cases h1 : byt s pos ≤ 127
  · rw [if_pos h1]; omega
  rw [if_neg h1]
  by_cases h2 : 194 ≤ byt s pos ∧ byt s pos ≤ 223 ∧ inB s (pos + 1) 128 191 = true
  · rw [if_pos h2]; have := (inB_iff.1 h2.2.2).1; omega
  rw [if_neg h2]
  by_cases h3 : 224 ≤ byt s pos ∧ byt s pos ≤ 239 ∧ inB s (pos + 1) (if byt s pos = 224 then 160 else 128) (if byt s pos = 237 then 159 else 191) = true ∧ inB s (pos + 2) 128 191 = true
  · rw [if_pos h3]; have := (inB_iff.1 h3.2.2.2).1; omega
  rw [if_neg h3]
  by_cases h4 : 240 ≤ byt s pos ∧ byt s pos ≤ 244 ∧ inB s (pos + 1) (if byt s pos = 240 then 144 else 128) (if byt s pos = 244 then 143 else 191) = true ∧ inB s (pos + 2) 128 191 = true ∧ inB s (pos + 3) 128 191 = true
  · rw [if_pos h4]; have := (inB_iff.1 h4.2.2.2.2).1; omega
  · rw [if_neg h4]; omega
theorem badR_pos {s : ByteArray} {p : Nat} (h : bad s = (p : Int)) : badR s = p := by
  unfold badR; rw [if_neg (by omega), h]
theorem badR_neg {s : ByteArray} (h : bad s = -1) : badR s = s.size := by
  unfold badR; rw [if_pos (by omega)]

set_option maxHeartbeats 4000000 in
theorem badR_any (s : ByteArray) (w : World) (hs : s.size ≤ 4611686018427387904) :
    Calls Tryd.prog 79 #[.string s] w fun e w' => e = .returned (.int .i64 (badR s)) ∧ w = w' := by
  go_enter Tryd.func79, Tryd.ntmps79
  go_wp2_with fail
  go_loop [3] (fun i => ∃ (pos fuel : Nat), i = .int .i64 pos ∧ Hid (badFrom s fuel pos = bad s) ∧ s.size ≤ pos + fuel ∧ pos ≤ s.size) (fun i => s.size - (intOf i).toNat)
  case atStart => exact ⟨0, s.size, rfl, rfl, by omega, by omega⟩
  case round =>
    obtain ⟨pos, fuel, rfl, HS, hb, hp⟩ := hrel
    by_cases hlt : pos < s.size
    · obtain ⟨f, rfl⟩ : ∃ f, fuel = f + 1 := ⟨fuel - 1, by omega⟩
      have hst := badFrom_step (f := f) hlt
      have HST := Lib.hid hst
      have eb := byt_get s pos hlt
      clear hst
      by_cases hc : chr s pos = 0
      · have hv := badR_pos (HS.out.symm.trans (HST.out.1 (.inl hc)))
        have HV := Lib.hid hv
        have hc2 : ((chr s pos : Nat) : Int) = 0 := by omega
        clear hv hc HS
        go_wp2_with (go_at_call 89; refine (char_any s pos _ hlt hs).mono ?_; rintro e w' ⟨rfl, rfl⟩)
        go_ret
        exact ⟨ret_int (by rw [HV.out]), rfl⟩
      · by_cases hz : byt s pos = 0
        · have hv := badR_pos (HS.out.symm.trans (HST.out.1 (.inr hz)))
          have HV := Lib.hid hv
          have hc2 : (((chr s pos : Nat) : Int) == 0) = false := by rw [beq_eq_false_iff_ne]; omega
          rw [hz] at eb
          clear hv hc HS hz
          go_wp2_with (go_at_call 89; refine (char_any s pos _ hlt hs).mono ?_; rintro e w' ⟨rfl, rfl⟩)
          go_ret
          exact ⟨ret_int (by rw [HV.out]), rfl⟩
        · have hv := (HST.out.2 (fun h => h.elim hc hz)).symm.trans HS.out
          have HV := Lib.hid hv
          have hc2 : (((chr s pos : Nat) : Int) == 0) = false := by rw [beq_eq_false_iff_ne]; omega
          have hz2 : (((byt s pos : Nat) : Int) == 0) = false := by rw [beq_eq_false_iff_ne]; omega
          have hle := chr_le hlt
          have hgt : 0 < chr s pos := by omega
          clear hv hc HS hz
          go_wp2_with (go_at_call 89; refine (char_any s pos _ hlt hs).mono ?_; rintro e w' ⟨rfl, rfl⟩)
          go_round
          case rel => exact ⟨pos + chr s pos, f, by go_num, HV.out, by omega, by omega⟩
          case measure => simp [intOf]; omega
    · have hv : bad s = -1 := by
        rw [← HS.out]
        cases fuel <;> simp [badFrom, hlt]
      have HV := Lib.hid (badR_neg hv)
      clear hv HS
      go_wp2_with fail
      go_ret
      exact ⟨ret_int (by rw [HV.out]), rfl⟩

theorem badR_good (s : ByteArray) : (badR s == (s.size : Int)) = good s := by
  unfold badR good
  have hlt : bad s < s.size ∨ bad s < 0 := by
    have : ∀ f pos, badFrom s f pos < s.size ∨ badFrom s f pos < 0 := by
      intro f
      induction f with
      | zero => intro pos; right; simp [badFrom]
      | succ f ih =>
        intro pos
        unfold badFrom
        split
        · split
          · left; omega
          · split
            · left; omega
            · exact ih _
        · right; decide
    exact this _ _
  by_cases h : bad s < 0
  · rw [if_pos h, decide_eq_true h]; simp
  · rw [if_neg h, decide_eq_false h]
    rw [beq_eq_false_iff_ne]; omega

set_option maxHeartbeats 4000000 in
theorem goodR_any (s : ByteArray) (w : World) (hs : s.size ≤ 4611686018427387904) :
    Calls Tryd.prog 56 #[.string s] w fun e w' => e = .returned (.bool (good s)) ∧ w = w' := by
  have HG := Lib.hid (badR_good s)
  go_enter Tryd.func56, Tryd.ntmps56
  go_wp2_with (go_at_call 79; refine (badR_any s _ hs).mono ?_; rintro e w' ⟨rfl, rfl⟩)
  go_ret
  exact ⟨ret_bool HG.out, rfl⟩

set_option maxHeartbeats 4000000 in
theorem userR_any (s : ByteArray) (w : World) (hs : s.size ≤ 4611686018427387904) :
    Calls Tryd.prog 35 #[.string s] w fun e w' => e = .returned (.bool (userOk s)) ∧ w = w' := by
  have hu : userOk s = (decide (s.size ≤ 32) && good s) := rfl
  have HU := Lib.hid hu
  clear hu
  cases hg : good s with
  | true =>
    by_cases h32 : s.size ≤ 32
    · have hv : userOk s = true := by rw [HU.out, hg, decide_eq_true h32]; rfl
      have hd : decide ((s.size : Int) ≤ 32) = true := by rw [decide_eq_true_iff]; omega
      go_enter Tryd.func35, Tryd.ntmps35
      go_wp2_with (go_at_call 56; refine (goodR_any s _ hs).mono ?_; rintro e w' ⟨rfl, rfl⟩)
      go_ret
      first | exact ⟨rfl, rfl⟩ | exact ⟨by rw [hv]; rfl, rfl⟩
    · have hv : userOk s = false := by rw [HU.out, decide_eq_false h32]; rfl
      have hd : decide ((s.size : Int) ≤ 32) = false := by rw [decide_eq_false_iff_not]; omega
      go_enter Tryd.func35, Tryd.ntmps35
      go_wp2_with (go_at_call 56; refine (goodR_any s _ hs).mono ?_; rintro e w' ⟨rfl, rfl⟩)
      go_ret
      first | exact ⟨rfl, rfl⟩ | exact ⟨by rw [hv]; rfl, rfl⟩
  | false =>
    have hv : userOk s = false := by rw [HU.out, hg]; simp
    go_enter Tryd.func35, Tryd.ntmps35
    go_wp2_with (go_at_call 56; refine (goodR_any s _ hs).mono ?_; rintro e w' ⟨rfl, rfl⟩)
    go_ret
    first | exact ⟨rfl, rfl⟩ | exact ⟨by rw [hv]; rfl, rfl⟩
end Go.Proofs.YtfbcdhcgmncklaaDoor
