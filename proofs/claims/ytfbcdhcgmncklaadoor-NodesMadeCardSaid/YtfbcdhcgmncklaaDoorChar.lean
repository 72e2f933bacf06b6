/- The reference's texts: Character, Bad, Good. -/
import Derived.Test.YtfbcdhcgmncklaaDoorText
import Derived.LoopTactic
namespace Go.Nd
open Go
/-- Byte i of s, as a number. -/
def byt (s : ByteArray) (i : Nat) : Nat := (s.get! i).toNat
theorem byt_lt (s : ByteArray) (i : Nat) : byt s i < 256 := (s.get! i).toNat_lt
theorem byt_get (s : ByteArray) (i : Nat) (h : i < s.size) : (s[i].toNat : Int) = (byt s i : Int) := by
  unfold byt
  obtain ⟨bs⟩ := s
  have h' : i < bs.size := h
  have : (⟨bs⟩ : ByteArray).get! i = bs[i] := getElem!_pos bs i h'
  rw [this]
  rfl
/-- Does byte i lie between lo and hi? -/
def inB (s : ByteArray) (i lo hi : Nat) : Bool := decide (i < s.size) && (decide (lo ≤ byt s i) && decide (byt s i ≤ hi))
theorem inB_out {s : ByteArray} {i lo hi : Nat} (h : s.size ≤ i) : inB s i lo hi = false := by
  unfold inB; rw [decide_eq_false (by omega)]; rfl
theorem inB_in {s : ByteArray} {i lo hi : Nat} (h : i < s.size) : inB s i lo hi = (decide (lo ≤ byt s i) && decide (byt s i ≤ hi)) := by
  unfold inB; rw [decide_eq_true h]; rfl
theorem inB_t {s : ByteArray} {i lo hi : Nat} (h : i < s.size) (h1 : lo ≤ byt s i) (h2 : byt s i ≤ hi) : inB s i lo hi = true := by
  unfold inB; rw [decide_eq_true h, decide_eq_true h1, decide_eq_true h2]; rfl
theorem inB_f {s : ByteArray} {i lo hi : Nat} (h : byt s i < lo ∨ hi < byt s i) : inB s i lo hi = false := by
  unfold inB
  rcases h with h | h
  · rw [decide_eq_false (show ¬ lo ≤ byt s i by omega)]; simp
  · rw [decide_eq_false (show ¬ byt s i ≤ hi by omega)]; simp
theorem inB_iff {s : ByteArray} {i lo hi : Nat} : inB s i lo hi = true ↔ i < s.size ∧ lo ≤ byt s i ∧ byt s i ≤ hi := by
  unfold inB; simp
/-- How many bytes the character at place i has; 0: none begins there. -/
def chr (s : ByteArray) (i : Nat) : Nat :=
  if byt s i ≤ 127 then 1
  else if 194 ≤ byt s i ∧ byt s i ≤ 223 ∧ inB s (i + 1) 128 191 = true then 2
  else if 224 ≤ byt s i ∧ byt s i ≤ 239 ∧ inB s (i + 1) (if byt s i = 224 then 160 else 128) (if byt s i = 237 then 159 else 191) = true ∧ inB s (i + 2) 128 191 = true then 3
  else if 240 ≤ byt s i ∧ byt s i ≤ 244 ∧ inB s (i + 1) (if byt s i = 240 then 144 else 128) (if byt s i = 244 then 143 else 191) = true ∧ inB s (i + 2) 128 191 = true ∧ inB s (i + 3) 128 191 = true then 4
  else 0

theorem cont_iff {s : ByteArray} {i : Nat} : (decide (i < s.size) && ((s.get! i).toNat / 64 == 2)) = inB s i 128 191 := by
  rw [Bool.eq_iff_iff, inB_iff]
  have := byt_lt s i
  show _ ↔ i < s.size ∧ 128 ≤ (s.get! i).toNat ∧ (s.get! i).toNat ≤ 191
  unfold byt at this
  simp
  omega

theorem dec_eq (s : ByteArray) (i : Nat) : Utf8.decode s i =
    (if byt s i < 128 then (byt s i, 1)
    else if byt s i / 32 == 6 && inB s (i + 1) 128 191 then (if (byt s i % 32) * 64 + byt s (i + 1) % 64 ≥ 128 then ((byt s i % 32) * 64 + byt s (i + 1) % 64, 2) else (65533, 1))
    else if byt s i / 16 == 14 && inB s (i + 1) 128 191 && inB s (i + 2) 128 191 then
      (if (byt s i % 16) * 4096 + (byt s (i + 1) % 64) * 64 + byt s (i + 2) % 64 ≥ 2048 && Utf8.valid ((byt s i % 16) * 4096 + (byt s (i + 1) % 64) * 64 + byt s (i + 2) % 64 : Nat) then ((byt s i % 16) * 4096 + (byt s (i + 1) % 64) * 64 + byt s (i + 2) % 64, 3) else (65533, 1))
    else if byt s i / 8 == 30 && inB s (i + 1) 128 191 && inB s (i + 2) 128 191 && inB s (i + 3) 128 191 then
      (if (byt s i % 8) * 262144 + (byt s (i + 1) % 64) * 4096 + (byt s (i + 2) % 64) * 64 + byt s (i + 3) % 64 ≥ 65536 && Utf8.valid ((byt s i % 8) * 262144 + (byt s (i + 1) % 64) * 4096 + (byt s (i + 2) % 64) * 64 + byt s (i + 3) % 64 : Nat) then ((byt s i % 8) * 262144 + (byt s (i + 1) % 64) * 4096 + (byt s (i + 2) % 64) * 64 + byt s (i + 3) % 64, 4) else (65533, 1))
    else (65533, 1)) := by
  unfold Utf8.decode
  simp only [cont_iff]
  rfl

/-- What Character says of a piece, against what the decoder makes of it. -/
def ChrOk (b n : Nat) (d : Nat × Nat) : Prop := (n = 0 ∧ d = (65533, 1)) ∨ (n ≠ 0 ∧ d.2 = n ∧ ¬ (d.1 = 65533 ∧ d.2 = 1) ∧ (d.1 = 0 ↔ b = 0))

theorem valid_iff (c : Nat) : Utf8.valid (c : Int) = true ↔ c < 55296 ∨ (57344 ≤ c ∧ c ≤ 1114111) := by
  unfold Utf8.valid; simp; omega

theorem chr_ok (s : ByteArray) (i : Nat) : ChrOk (byt s i) (chr s i) (Utf8.decode s i) := by
  rw [dec_eq]
  unfold chr
  have e1 : inB s (i + 1) 128 191 = true → 128 ≤ byt s (i + 1) ∧ byt s (i + 1) ≤ 191 := fun h => (inB_iff.1 h).2
  have e2 : inB s (i + 2) 128 191 = true → 128 ≤ byt s (i + 2) ∧ byt s (i + 2) ≤ 191 := fun h => (inB_iff.1 h).2
  have e3 : inB s (i + 3) 128 191 = true → 128 ≤ byt s (i + 3) ∧ byt s (i + 3) ≤ 191 := fun h => (inB_iff.1 h).2
  have e4 : ∀ lo hi, 128 ≤ lo → hi ≤ 191 → (inB s (i + 1) lo hi = true ↔ inB s (i + 1) 128 191 = true ∧ lo ≤ byt s (i + 1) ∧ byt s (i + 1) ≤ hi) := fun lo hi h1 h2 => by
    rw [inB_iff, inB_iff]; omega
  have e5 : inB s (i + 1) (if byt s i = 224 then 160 else 128) (if byt s i = 237 then 159 else 191) = true ↔ inB s (i + 1) 128 191 = true ∧ (byt s i ≠ 224 ∨ 160 ≤ byt s (i + 1)) ∧ (byt s i ≠ 237 ∨ byt s (i + 1) ≤ 159) := by
    rw [e4 _ _ (by split <;> omega) (by split <;> omega)]
    by_cases h : inB s (i + 1) 128 191 = true
    · have := e1 h
      simp only [h, true_and]
      split <;> split <;> omega
    · simp [h]
  have e6 : inB s (i + 1) (if byt s i = 240 then 144 else 128) (if byt s i = 244 then 143 else 191) = true ↔ inB s (i + 1) 128 191 = true ∧ (byt s i ≠ 240 ∨ 144 ≤ byt s (i + 1)) ∧ (byt s i ≠ 244 ∨ byt s (i + 1) ≤ 143) := by
    rw [e4 _ _ (by split <;> omega) (by split <;> omega)]
    by_cases h : inB s (i + 1) 128 191 = true
    · have := e1 h
      simp only [h, true_and]
      split <;> split <;> omega
    · simp [h]
  simp only [e5, e6, Bool.and_eq_true, beq_iff_eq, decide_eq_true_eq, valid_iff]
  have hb := byt_lt s i
  generalize byt s i = a at *
  generalize byt s (i + 1) = b at *
  generalize byt s (i + 2) = c at *
  generalize byt s (i + 3) = d at *
  generalize inB s (i + 1) 128 191 = B at *
  generalize inB s (i + 2) 128 191 = C at *
  generalize inB s (i + 3) 128 191 = D at *
  clear e4 e5 e6
  cases B <;> cases C <;> cases D <;> simp only [Bool.false_eq_true, and_false, false_and, and_true, true_and, if_false, true_implies, false_implies] at e1 e2 e3 ⊢
  all_goals
    unfold ChrOk
    repeat' split
    all_goals first
      | (exfalso; omega)
      | exact .inl ⟨rfl, rfl⟩
      | (refine .inr ⟨?_, rfl, ?_, ?_⟩ <;> (try dsimp only) <;> omega)
end Go.Nd

namespace Go.Proofs.YtfbcdhcgmncklaaDoor
open Go Go.RowKit Go.Nd
set_option maxRecDepth 100000

/-- inB, its numbers as the walk spells them. -/
def inZ (s : ByteArray) (i lo hi : Int) : Bool := inB s i.toNat lo.toNat hi.toNat
theorem inZ_of {s : ByteArray} {i lo hi : Int} {b : Bool} (h : inB s i.toNat lo.toNat hi.toNat = b) : inZ s i lo hi = b := h

set_option maxHeartbeats 2000000 in
theorem within_any (s : ByteArray) (i lo hi : Int) (w : World) (i0 : 0 ≤ i) (_hs : s.size ≤ 4611686018427387904) (l0 : 0 ≤ lo) (h0 : 0 ≤ hi) :
    Calls Tryd.prog 101 #[.string s, .int .i64 i, .int .u8 lo, .int .u8 hi] w fun e w' => e = .returned (.bool (inZ s i lo hi)) ∧ w = w' := by
  obtain ⟨n, rfl⟩ : ∃ n : Nat, i = n := ⟨i.toNat, by omega⟩
  by_cases hn : n < s.size
  · have eb := byt_get s n hn
    have hI : inZ s n lo hi = (decide (lo ≤ (byt s n : Int)) && decide ((byt s n : Int) ≤ hi)) := by
      unfold inZ
      rw [Int.toNat_natCast, inB_in hn]
      congr 1 <;> (rw [decide_eq_decide]; omega)
    have HI := Lib.hid hI
    clear hI
    by_cases h1 : lo ≤ (byt s n : Int)
    · by_cases h2 : (byt s n : Int) ≤ hi
      · have hv : inZ s n lo hi = true := by rw [HI.out, decide_eq_true h1, decide_eq_true h2]; rfl
        go_enter Tryd.func101, Tryd.ntmps101
        go_wp2
        go_ret
        first | exact ⟨rfl, rfl⟩ | exact ⟨by rw [hv]; rfl, rfl⟩
      · have hv : inZ s n lo hi = false := by rw [HI.out, decide_eq_false h2]; simp
        go_enter Tryd.func101, Tryd.ntmps101
        go_wp2
        go_ret
        first | exact ⟨rfl, rfl⟩ | exact ⟨by rw [hv]; rfl, rfl⟩
    · have hv : inZ s n lo hi = false := by rw [HI.out, decide_eq_false h1]; simp
      go_enter Tryd.func101, Tryd.ntmps101
      go_wp2
      go_ret
      first | exact ⟨rfl, rfl⟩ | exact ⟨by rw [hv]; rfl, rfl⟩
  · have hv : inZ s n lo hi = false := inZ_of (inB_out (by rw [Int.toNat_natCast]; omega))
    go_enter Tryd.func101, Tryd.ntmps101
    go_wp2
    go_ret
    first | exact ⟨rfl, rfl⟩ | exact ⟨by rw [hv]; rfl, rfl⟩

theorem inZ_f {s : ByteArray} {n : Nat} (lo hi : Int) (l0 : 0 ≤ lo) (h0 : 0 ≤ hi) (h : (byt s n : Int) < lo ∨ hi < byt s n) : inZ s n lo hi = false := inZ_of (by rw [Int.toNat_natCast]; exact inB_f (by omega))
theorem inZ_t {s : ByteArray} {n : Nat} (lo hi : Int) (hn : n < s.size) (h : lo ≤ (byt s n : Int)) (h2 : (byt s n : Int) ≤ hi) : inZ s n lo hi = true := inZ_of (by rw [Int.toNat_natCast]; exact inB_t hn (by omega) (by omega))

set_option maxHeartbeats 8000000 in
theorem char_any (s : ByteArray) (n : Nat) (w : World) (hn : n < s.size) (hs : s.size ≤ 4611686018427387904) :
    Calls Tryd.prog 89 #[.string s, .int .i64 n] w fun e w' => e = .returned (.int .i64 (chr s n)) ∧ w = w' := by
  have hb := byt_lt s n
  have hb1 := byt_lt s (n + 1)
  have e1 : ((n : Int) + 1).toNat = n + 1 := by omega
  rcases (show (0 ≤ byt s n ∧ byt s n ≤ 127) ∨ (128 ≤ byt s n ∧ byt s n ≤ 193) ∨ (194 ≤ byt s n ∧ byt s n ≤ 223) ∨ (224 ≤ byt s n ∧ byt s n ≤ 224) ∨ (225 ≤ byt s n ∧ byt s n ≤ 236) ∨ (237 ≤ byt s n ∧ byt s n ≤ 237) ∨ (238 ≤ byt s n ∧ byt s n ≤ 239) ∨ (240 ≤ byt s n ∧ byt s n ≤ 240) ∨ (241 ≤ byt s n ∧ byt s n ≤ 243) ∨ (244 ≤ byt s n ∧ byt s n ≤ 244) ∨ (245 ≤ byt s n ∧ byt s n ≤ 255) by omega) with r | r | r | r | r | r | r | r | r | r | r
  · have hv : chr s n = 1 := by unfold chr; rw [if_pos (by omega)]
    have q0_127 : inZ s n 0 127 = true := inZ_t 0 127 (by omega) (by omega) (by omega)
    have HV := Lib.hid hv
    clear hv hb hb1 e1 r
    go_enter Tryd.func89, Tryd.ntmps89
    go_wp2_with (go_at_call 101; refine (within_any _ _ _ _ _ (by omega) hs (by omega) (by omega)).mono ?_; rintro e w' ⟨rfl, rfl⟩)
    go_ret
    exact ⟨by rw [HV.out]; rfl, rfl⟩
  · have hv : chr s n = 0 := by unfold chr; rw [if_neg (by omega), if_neg (by omega), if_neg (by omega), if_neg (by omega)]
    have q0_127 : inZ s n 0 127 = false := inZ_f 0 127 (by omega) (by omega) (by omega)
    have q194_223 : inZ s n 194 223 = false := inZ_f 194 223 (by omega) (by omega) (by omega)
    have q224_224 : inZ s n 224 224 = false := inZ_f 224 224 (by omega) (by omega) (by omega)
    have q237_237 : inZ s n 237 237 = false := inZ_f 237 237 (by omega) (by omega) (by omega)
    have q224_239 : inZ s n 224 239 = false := inZ_f 224 239 (by omega) (by omega) (by omega)
    have q240_240 : inZ s n 240 240 = false := inZ_f 240 240 (by omega) (by omega) (by omega)
    have q244_244 : inZ s n 244 244 = false := inZ_f 244 244 (by omega) (by omega) (by omega)
    have q240_244 : inZ s n 240 244 = false := inZ_f 240 244 (by omega) (by omega) (by omega)
    have HV := Lib.hid hv
    clear hv hb hb1 e1 r
    go_enter Tryd.func89, Tryd.ntmps89
    go_wp2_with (go_at_call 101; refine (within_any _ _ _ _ _ (by omega) hs (by omega) (by omega)).mono ?_; rintro e w' ⟨rfl, rfl⟩)
    go_ret
    exact ⟨by rw [HV.out]; rfl, rfl⟩
  · cases p1 : inZ s ((n : Int) + 1) 128 191 with
    | true =>
      have p1' : inB s (n + 1) 128 191 = true := by have := p1; unfold inZ at this; rw [e1] at this; exact this
      have hv : chr s n = 2 := by unfold chr; rw [if_neg (by omega), if_pos ⟨by omega, by omega, p1'⟩]
      clear p1'
      have q0_127 : inZ s n 0 127 = false := inZ_f 0 127 (by omega) (by omega) (by omega)
      have q194_223 : inZ s n 194 223 = true := inZ_t 194 223 (by omega) (by omega) (by omega)
      have HV := Lib.hid hv
      clear hv hb hb1 e1 r
      go_enter Tryd.func89, Tryd.ntmps89
      go_wp2_with (go_at_call 101; refine (within_any _ _ _ _ _ (by omega) hs (by omega) (by omega)).mono ?_; rintro e w' ⟨rfl, rfl⟩)
      go_ret
      exact ⟨by rw [HV.out]; rfl, rfl⟩
    | false =>
      have p1' : inB s (n + 1) 128 191 = false := by have := p1; unfold inZ at this; rw [e1] at this; exact this
      have hv : chr s n = 0 := by unfold chr; rw [if_neg (by omega), if_neg (by rw [p1']; simp), if_neg (by omega), if_neg (by omega)]
      clear p1'
      have q0_127 : inZ s n 0 127 = false := inZ_f 0 127 (by omega) (by omega) (by omega)
      have q194_223 : inZ s n 194 223 = true := inZ_t 194 223 (by omega) (by omega) (by omega)
      have q224_224 : inZ s n 224 224 = false := inZ_f 224 224 (by omega) (by omega) (by omega)
      have q237_237 : inZ s n 237 237 = false := inZ_f 237 237 (by omega) (by omega) (by omega)
      have q224_239 : inZ s n 224 239 = false := inZ_f 224 239 (by omega) (by omega) (by omega)
      have q240_240 : inZ s n 240 240 = false := inZ_f 240 240 (by omega) (by omega) (by omega)
      have q244_244 : inZ s n 244 244 = false := inZ_f 244 244 (by omega) (by omega) (by omega)
      have q240_244 : inZ s n 240 244 = false := inZ_f 240 244 (by omega) (by omega) (by omega)
      have HV := Lib.hid hv
      clear hv hb hb1 e1 r
      go_enter Tryd.func89, Tryd.ntmps89
      go_wp2_with (go_at_call 101; refine (within_any _ _ _ _ _ (by omega) hs (by omega) (by omega)).mono ?_; rintro e w' ⟨rfl, rfl⟩)
      go_ret
      exact ⟨by rw [HV.out]; rfl, rfl⟩
  · cases p1 : inZ s ((n : Int) + 1) 160 191 with
    | true =>
      have p1' : inB s (n + 1) 160 191 = true := by have h := p1; unfold inZ at h; rw [show ((n : Int) + 1).toNat = n + 1 by omega] at h; exact h
      cases p2 : inZ s ((n : Int) + 2) 128 191 with
      | true =>
        have p2' : inB s (n + 2) 128 191 = true := by have h := p2; unfold inZ at h; rw [show ((n : Int) + 2).toNat = n + 2 by omega] at h; exact h
        have hv : chr s n = 3 := by unfold chr; rw [if_neg (by omega), if_neg (by omega), if_pos (show byt s n = 224 by omega), if_neg (show ¬ byt s n = 237 by omega), if_pos ⟨by omega, by omega, p1', p2'⟩]
        clear p1' p2'
        have q0_127 : inZ s n 0 127 = false := inZ_f 0 127 (by omega) (by omega) (by omega)
        have q194_223 : inZ s n 194 223 = false := inZ_f 194 223 (by omega) (by omega) (by omega)
        have q224_224 : inZ s n 224 224 = true := inZ_t 224 224 (by omega) (by omega) (by omega)
        have q237_237 : inZ s n 237 237 = false := inZ_f 237 237 (by omega) (by omega) (by omega)
        have q224_239 : inZ s n 224 239 = true := inZ_t 224 239 (by omega) (by omega) (by omega)
        have HV := Lib.hid hv
        clear hv hb hb1 e1 r
        go_enter Tryd.func89, Tryd.ntmps89
        go_wp2_with (go_at_call 101; refine (within_any _ _ _ _ _ (by omega) hs (by omega) (by omega)).mono ?_; rintro e w' ⟨rfl, rfl⟩)
        go_ret
        exact ⟨by rw [HV.out]; rfl, rfl⟩
      | false =>
        have p2' : inB s (n + 2) 128 191 = false := by have h := p2; unfold inZ at h; rw [show ((n : Int) + 2).toNat = n + 2 by omega] at h; exact h
        have hv : chr s n = 0 := by unfold chr; rw [if_neg (by omega), if_neg (by omega), if_pos (show byt s n = 224 by omega), if_neg (show ¬ byt s n = 237 by omega), if_neg (by rw [p2']; simp), if_neg (by omega)]
        clear p1' p2'
        have q0_127 : inZ s n 0 127 = false := inZ_f 0 127 (by omega) (by omega) (by omega)
        have q194_223 : inZ s n 194 223 = false := inZ_f 194 223 (by omega) (by omega) (by omega)
        have q224_224 : inZ s n 224 224 = true := inZ_t 224 224 (by omega) (by omega) (by omega)
        have q237_237 : inZ s n 237 237 = false := inZ_f 237 237 (by omega) (by omega) (by omega)
        have q224_239 : inZ s n 224 239 = true := inZ_t 224 239 (by omega) (by omega) (by omega)
        have q240_240 : inZ s n 240 240 = false := inZ_f 240 240 (by omega) (by omega) (by omega)
        have q244_244 : inZ s n 244 244 = false := inZ_f 244 244 (by omega) (by omega) (by omega)
        have q240_244 : inZ s n 240 244 = false := inZ_f 240 244 (by omega) (by omega) (by omega)
        have HV := Lib.hid hv
        clear hv hb hb1 e1 r
        go_enter Tryd.func89, Tryd.ntmps89
        go_wp2_with (go_at_call 101; refine (within_any _ _ _ _ _ (by omega) hs (by omega) (by omega)).mono ?_; rintro e w' ⟨rfl, rfl⟩)
        go_ret
        exact ⟨by rw [HV.out]; rfl, rfl⟩
    | false =>
      have p1' : inB s (n + 1) 160 191 = false := by have h := p1; unfold inZ at h; rw [show ((n : Int) + 1).toNat = n + 1 by omega] at h; exact h
      have hv : chr s n = 0 := by unfold chr; rw [if_neg (by omega), if_neg (by omega), if_pos (show byt s n = 224 by omega), if_neg (show ¬ byt s n = 237 by omega), if_neg (by rw [p1']; simp), if_neg (by omega)]
      clear p1'
      have q0_127 : inZ s n 0 127 = false := inZ_f 0 127 (by omega) (by omega) (by omega)
      have q194_223 : inZ s n 194 223 = false := inZ_f 194 223 (by omega) (by omega) (by omega)
      have q224_224 : inZ s n 224 224 = true := inZ_t 224 224 (by omega) (by omega) (by omega)
      have q237_237 : inZ s n 237 237 = false := inZ_f 237 237 (by omega) (by omega) (by omega)
      have q224_239 : inZ s n 224 239 = true := inZ_t 224 239 (by omega) (by omega) (by omega)
      have q240_240 : inZ s n 240 240 = false := inZ_f 240 240 (by omega) (by omega) (by omega)
      have q244_244 : inZ s n 244 244 = false := inZ_f 244 244 (by omega) (by omega) (by omega)
      have q240_244 : inZ s n 240 244 = false := inZ_f 240 244 (by omega) (by omega) (by omega)
      have HV := Lib.hid hv
      clear hv hb hb1 e1 r
      go_enter Tryd.func89, Tryd.ntmps89
      go_wp2_with (go_at_call 101; refine (within_any _ _ _ _ _ (by omega) hs (by omega) (by omega)).mono ?_; rintro e w' ⟨rfl, rfl⟩)
      go_ret
      exact ⟨by rw [HV.out]; rfl, rfl⟩
  · cases p1 : inZ s ((n : Int) + 1) 128 191 with
    | true =>
      have p1' : inB s (n + 1) 128 191 = true := by have h := p1; unfold inZ at h; rw [show ((n : Int) + 1).toNat = n + 1 by omega] at h; exact h
      cases p2 : inZ s ((n : Int) + 2) 128 191 with
      | true =>
        have p2' : inB s (n + 2) 128 191 = true := by have h := p2; unfold inZ at h; rw [show ((n : Int) + 2).toNat = n + 2 by omega] at h; exact h
        have hv : chr s n = 3 := by unfold chr; rw [if_neg (by omega), if_neg (by omega), if_neg (show ¬ byt s n = 224 by omega), if_neg (show ¬ byt s n = 237 by omega), if_pos ⟨by omega, by omega, p1', p2'⟩]
        clear p1' p2'
        have q0_127 : inZ s n 0 127 = false := inZ_f 0 127 (by omega) (by omega) (by omega)
        have q194_223 : inZ s n 194 223 = false := inZ_f 194 223 (by omega) (by omega) (by omega)
        have q224_224 : inZ s n 224 224 = false := inZ_f 224 224 (by omega) (by omega) (by omega)
        have q237_237 : inZ s n 237 237 = false := inZ_f 237 237 (by omega) (by omega) (by omega)
        have q224_239 : inZ s n 224 239 = true := inZ_t 224 239 (by omega) (by omega) (by omega)
        have HV := Lib.hid hv
        clear hv hb hb1 e1 r
        go_enter Tryd.func89, Tryd.ntmps89
        go_wp2_with (go_at_call 101; refine (within_any _ _ _ _ _ (by omega) hs (by omega) (by omega)).mono ?_; rintro e w' ⟨rfl, rfl⟩)
        go_ret
        exact ⟨by rw [HV.out]; rfl, rfl⟩
      | false =>
        have p2' : inB s (n + 2) 128 191 = false := by have h := p2; unfold inZ at h; rw [show ((n : Int) + 2).toNat = n + 2 by omega] at h; exact h
        have hv : chr s n = 0 := by unfold chr; rw [if_neg (by omega), if_neg (by omega), if_neg (show ¬ byt s n = 224 by omega), if_neg (show ¬ byt s n = 237 by omega), if_neg (by rw [p2']; simp), if_neg (by omega)]
        clear p1' p2'
        have q0_127 : inZ s n 0 127 = false := inZ_f 0 127 (by omega) (by omega) (by omega)
        have q194_223 : inZ s n 194 223 = false := inZ_f 194 223 (by omega) (by omega) (by omega)
        have q224_224 : inZ s n 224 224 = false := inZ_f 224 224 (by omega) (by omega) (by omega)
        have q237_237 : inZ s n 237 237 = false := inZ_f 237 237 (by omega) (by omega) (by omega)
        have q224_239 : inZ s n 224 239 = true := inZ_t 224 239 (by omega) (by omega) (by omega)
        have q240_240 : inZ s n 240 240 = false := inZ_f 240 240 (by omega) (by omega) (by omega)
        have q244_244 : inZ s n 244 244 = false := inZ_f 244 244 (by omega) (by omega) (by omega)
        have q240_244 : inZ s n 240 244 = false := inZ_f 240 244 (by omega) (by omega) (by omega)
        have HV := Lib.hid hv
        clear hv hb hb1 e1 r
        go_enter Tryd.func89, Tryd.ntmps89
        go_wp2_with (go_at_call 101; refine (within_any _ _ _ _ _ (by omega) hs (by omega) (by omega)).mono ?_; rintro e w' ⟨rfl, rfl⟩)
        go_ret
        exact ⟨by rw [HV.out]; rfl, rfl⟩
    | false =>
      have p1' : inB s (n + 1) 128 191 = false := by have h := p1; unfold inZ at h; rw [show ((n : Int) + 1).toNat = n + 1 by omega] at h; exact h
      have hv : chr s n = 0 := by unfold chr; rw [if_neg (by omega), if_neg (by omega), if_neg (show ¬ byt s n = 224 by omega), if_neg (show ¬ byt s n = 237 by omega), if_neg (by rw [p1']; simp), if_neg (by omega)]
      clear p1'
      have q0_127 : inZ s n 0 127 = false := inZ_f 0 127 (by omega) (by omega) (by omega)
      have q194_223 : inZ s n 194 223 = false := inZ_f 194 223 (by omega) (by omega) (by omega)
      have q224_224 : inZ s n 224 224 = false := inZ_f 224 224 (by omega) (by omega) (by omega)
      have q237_237 : inZ s n 237 237 = false := inZ_f 237 237 (by omega) (by omega) (by omega)
      have q224_239 : inZ s n 224 239 = true := inZ_t 224 239 (by omega) (by omega) (by omega)
      have q240_240 : inZ s n 240 240 = false := inZ_f 240 240 (by omega) (by omega) (by omega)
      have q244_244 : inZ s n 244 244 = false := inZ_f 244 244 (by omega) (by omega) (by omega)
      have q240_244 : inZ s n 240 244 = false := inZ_f 240 244 (by omega) (by omega) (by omega)
      have HV := Lib.hid hv
      clear hv hb hb1 e1 r
      go_enter Tryd.func89, Tryd.ntmps89
      go_wp2_with (go_at_call 101; refine (within_any _ _ _ _ _ (by omega) hs (by omega) (by omega)).mono ?_; rintro e w' ⟨rfl, rfl⟩)
      go_ret
      exact ⟨by rw [HV.out]; rfl, rfl⟩
  · cases p1 : inZ s ((n : Int) + 1) 128 159 with
    | true =>
      have p1' : inB s (n + 1) 128 159 = true := by have h := p1; unfold inZ at h; rw [show ((n : Int) + 1).toNat = n + 1 by omega] at h; exact h
      cases p2 : inZ s ((n : Int) + 2) 128 191 with
      | true =>
        have p2' : inB s (n + 2) 128 191 = true := by have h := p2; unfold inZ at h; rw [show ((n : Int) + 2).toNat = n + 2 by omega] at h; exact h
        have hv : chr s n = 3 := by unfold chr; rw [if_neg (by omega), if_neg (by omega), if_neg (show ¬ byt s n = 224 by omega), if_pos (show byt s n = 237 by omega), if_pos ⟨by omega, by omega, p1', p2'⟩]
        clear p1' p2'
        have q0_127 : inZ s n 0 127 = false := inZ_f 0 127 (by omega) (by omega) (by omega)
        have q194_223 : inZ s n 194 223 = false := inZ_f 194 223 (by omega) (by omega) (by omega)
        have q224_224 : inZ s n 224 224 = false := inZ_f 224 224 (by omega) (by omega) (by omega)
        have q237_237 : inZ s n 237 237 = true := inZ_t 237 237 (by omega) (by omega) (by omega)
        have q224_239 : inZ s n 224 239 = true := inZ_t 224 239 (by omega) (by omega) (by omega)
        have HV := Lib.hid hv
        clear hv hb hb1 e1 r
        go_enter Tryd.func89, Tryd.ntmps89
        go_wp2_with (go_at_call 101; refine (within_any _ _ _ _ _ (by omega) hs (by omega) (by omega)).mono ?_; rintro e w' ⟨rfl, rfl⟩)
        go_ret
        exact ⟨by rw [HV.out]; rfl, rfl⟩
      | false =>
        have p2' : inB s (n + 2) 128 191 = false := by have h := p2; unfold inZ at h; rw [show ((n : Int) + 2).toNat = n + 2 by omega] at h; exact h
        have hv : chr s n = 0 := by unfold chr; rw [if_neg (by omega), if_neg (by omega), if_neg (show ¬ byt s n = 224 by omega), if_pos (show byt s n = 237 by omega), if_neg (by rw [p2']; simp), if_neg (by omega)]
        clear p1' p2'
        have q0_127 : inZ s n 0 127 = false := inZ_f 0 127 (by omega) (by omega) (by omega)
        have q194_223 : inZ s n 194 223 = false := inZ_f 194 223 (by omega) (by omega) (by omega)
        have q224_224 : inZ s n 224 224 = false := inZ_f 224 224 (by omega) (by omega) (by omega)
        have q237_237 : inZ s n 237 237 = true := inZ_t 237 237 (by omega) (by omega) (by omega)
        have q224_239 : inZ s n 224 239 = true := inZ_t 224 239 (by omega) (by omega) (by omega)
        have q240_240 : inZ s n 240 240 = false := inZ_f 240 240 (by omega) (by omega) (by omega)
        have q244_244 : inZ s n 244 244 = false := inZ_f 244 244 (by omega) (by omega) (by omega)
        have q240_244 : inZ s n 240 244 = false := inZ_f 240 244 (by omega) (by omega) (by omega)
        have HV := Lib.hid hv
        clear hv hb hb1 e1 r
        go_enter Tryd.func89, Tryd.ntmps89
        go_wp2_with (go_at_call 101; refine (within_any _ _ _ _ _ (by omega) hs (by omega) (by omega)).mono ?_; rintro e w' ⟨rfl, rfl⟩)
        go_ret
        exact ⟨by rw [HV.out]; rfl, rfl⟩
    | false =>
      have p1' : inB s (n + 1) 128 159 = false := by have h := p1; unfold inZ at h; rw [show ((n : Int) + 1).toNat = n + 1 by omega] at h; exact h
      have hv : chr s n = 0 := by unfold chr; rw [if_neg (by omega), if_neg (by omega), if_neg (show ¬ byt s n = 224 by omega), if_pos (show byt s n = 237 by omega), if_neg (by rw [p1']; simp), if_neg (by omega)]
      clear p1'
      have q0_127 : inZ s n 0 127 = false := inZ_f 0 127 (by omega) (by omega) (by omega)
      have q194_223 : inZ s n 194 223 = false := inZ_f 194 223 (by omega) (by omega) (by omega)
      have q224_224 : inZ s n 224 224 = false := inZ_f 224 224 (by omega) (by omega) (by omega)
      have q237_237 : inZ s n 237 237 = true := inZ_t 237 237 (by omega) (by omega) (by omega)
      have q224_239 : inZ s n 224 239 = true := inZ_t 224 239 (by omega) (by omega) (by omega)
      have q240_240 : inZ s n 240 240 = false := inZ_f 240 240 (by omega) (by omega) (by omega)
      have q244_244 : inZ s n 244 244 = false := inZ_f 244 244 (by omega) (by omega) (by omega)
      have q240_244 : inZ s n 240 244 = false := inZ_f 240 244 (by omega) (by omega) (by omega)
      have HV := Lib.hid hv
      clear hv hb hb1 e1 r
      go_enter Tryd.func89, Tryd.ntmps89
      go_wp2_with (go_at_call 101; refine (within_any _ _ _ _ _ (by omega) hs (by omega) (by omega)).mono ?_; rintro e w' ⟨rfl, rfl⟩)
      go_ret
      exact ⟨by rw [HV.out]; rfl, rfl⟩
  · cases p1 : inZ s ((n : Int) + 1) 128 191 with
    | true =>
      have p1' : inB s (n + 1) 128 191 = true := by have h := p1; unfold inZ at h; rw [show ((n : Int) + 1).toNat = n + 1 by omega] at h; exact h
      cases p2 : inZ s ((n : Int) + 2) 128 191 with
      | true =>
        have p2' : inB s (n + 2) 128 191 = true := by have h := p2; unfold inZ at h; rw [show ((n : Int) + 2).toNat = n + 2 by omega] at h; exact h
        have hv : chr s n = 3 := by unfold chr; rw [if_neg (by omega), if_neg (by omega), if_neg (show ¬ byt s n = 224 by omega), if_neg (show ¬ byt s n = 237 by omega), if_pos ⟨by omega, by omega, p1', p2'⟩]
        clear p1' p2'
        have q0_127 : inZ s n 0 127 = false := inZ_f 0 127 (by omega) (by omega) (by omega)
        have q194_223 : inZ s n 194 223 = false := inZ_f 194 223 (by omega) (by omega) (by omega)
        have q224_224 : inZ s n 224 224 = false := inZ_f 224 224 (by omega) (by omega) (by omega)
        have q237_237 : inZ s n 237 237 = false := inZ_f 237 237 (by omega) (by omega) (by omega)
        have q224_239 : inZ s n 224 239 = true := inZ_t 224 239 (by omega) (by omega) (by omega)
        have HV := Lib.hid hv
        clear hv hb hb1 e1 r
        go_enter Tryd.func89, Tryd.ntmps89
        go_wp2_with (go_at_call 101; refine (within_any _ _ _ _ _ (by omega) hs (by omega) (by omega)).mono ?_; rintro e w' ⟨rfl, rfl⟩)
        go_ret
        exact ⟨by rw [HV.out]; rfl, rfl⟩
      | false =>
        have p2' : inB s (n + 2) 128 191 = false := by have h := p2; unfold inZ at h; rw [show ((n : Int) + 2).toNat = n + 2 by omega] at h; exact h
        have hv : chr s n = 0 := by unfold chr; rw [if_neg (by omega), if_neg (by omega), if_neg (show ¬ byt s n = 224 by omega), if_neg (show ¬ byt s n = 237 by omega), if_neg (by rw [p2']; simp), if_neg (by omega)]
        clear p1' p2'
        have q0_127 : inZ s n 0 127 = false := inZ_f 0 127 (by omega) (by omega) (by omega)
        have q194_223 : inZ s n 194 223 = false := inZ_f 194 223 (by omega) (by omega) (by omega)
        have q224_224 : inZ s n 224 224 = false := inZ_f 224 224 (by omega) (by omega) (by omega)
        have q237_237 : inZ s n 237 237 = false := inZ_f 237 237 (by omega) (by omega) (by omega)
        have q224_239 : inZ s n 224 239 = true := inZ_t 224 239 (by omega) (by omega) (by omega)
        have q240_240 : inZ s n 240 240 = false := inZ_f 240 240 (by omega) (by omega) (by omega)
        have q244_244 : inZ s n 244 244 = false := inZ_f 244 244 (by omega) (by omega) (by omega)
        have q240_244 : inZ s n 240 244 = false := inZ_f 240 244 (by omega) (by omega) (by omega)
        have HV := Lib.hid hv
        clear hv hb hb1 e1 r
        go_enter Tryd.func89, Tryd.ntmps89
        go_wp2_with (go_at_call 101; refine (within_any _ _ _ _ _ (by omega) hs (by omega) (by omega)).mono ?_; rintro e w' ⟨rfl, rfl⟩)
        go_ret
        exact ⟨by rw [HV.out]; rfl, rfl⟩
    | false =>
      have p1' : inB s (n + 1) 128 191 = false := by have h := p1; unfold inZ at h; rw [show ((n : Int) + 1).toNat = n + 1 by omega] at h; exact h
      have hv : chr s n = 0 := by unfold chr; rw [if_neg (by omega), if_neg (by omega), if_neg (show ¬ byt s n = 224 by omega), if_neg (show ¬ byt s n = 237 by omega), if_neg (by rw [p1']; simp), if_neg (by omega)]
      clear p1'
      have q0_127 : inZ s n 0 127 = false := inZ_f 0 127 (by omega) (by omega) (by omega)
      have q194_223 : inZ s n 194 223 = false := inZ_f 194 223 (by omega) (by omega) (by omega)
      have q224_224 : inZ s n 224 224 = false := inZ_f 224 224 (by omega) (by omega) (by omega)
      have q237_237 : inZ s n 237 237 = false := inZ_f 237 237 (by omega) (by omega) (by omega)
      have q224_239 : inZ s n 224 239 = true := inZ_t 224 239 (by omega) (by omega) (by omega)
      have q240_240 : inZ s n 240 240 = false := inZ_f 240 240 (by omega) (by omega) (by omega)
      have q244_244 : inZ s n 244 244 = false := inZ_f 244 244 (by omega) (by omega) (by omega)
      have q240_244 : inZ s n 240 244 = false := inZ_f 240 244 (by omega) (by omega) (by omega)
      have HV := Lib.hid hv
      clear hv hb hb1 e1 r
      go_enter Tryd.func89, Tryd.ntmps89
      go_wp2_with (go_at_call 101; refine (within_any _ _ _ _ _ (by omega) hs (by omega) (by omega)).mono ?_; rintro e w' ⟨rfl, rfl⟩)
      go_ret
      exact ⟨by rw [HV.out]; rfl, rfl⟩
  · cases p1 : inZ s ((n : Int) + 1) 144 191 with
    | true =>
      have p1' : inB s (n + 1) 144 191 = true := by have h := p1; unfold inZ at h; rw [show ((n : Int) + 1).toNat = n + 1 by omega] at h; exact h
      cases p2 : inZ s ((n : Int) + 2) 128 191 with
      | true =>
        have p2' : inB s (n + 2) 128 191 = true := by have h := p2; unfold inZ at h; rw [show ((n : Int) + 2).toNat = n + 2 by omega] at h; exact h
        cases p3 : inZ s ((n : Int) + 3) 128 191 with
        | true =>
          have p3' : inB s (n + 3) 128 191 = true := by have h := p3; unfold inZ at h; rw [show ((n : Int) + 3).toNat = n + 3 by omega] at h; exact h
          have hv : chr s n = 4 := by unfold chr; rw [if_neg (by omega), if_neg (by omega), if_neg (by omega), if_pos (show byt s n = 240 by omega), if_neg (show ¬ byt s n = 244 by omega), if_pos ⟨by omega, by omega, p1', p2', p3'⟩]
          clear p1' p2' p3'
          have q0_127 : inZ s n 0 127 = false := inZ_f 0 127 (by omega) (by omega) (by omega)
          have q194_223 : inZ s n 194 223 = false := inZ_f 194 223 (by omega) (by omega) (by omega)
          have q224_224 : inZ s n 224 224 = false := inZ_f 224 224 (by omega) (by omega) (by omega)
          have q237_237 : inZ s n 237 237 = false := inZ_f 237 237 (by omega) (by omega) (by omega)
          have q224_239 : inZ s n 224 239 = false := inZ_f 224 239 (by omega) (by omega) (by omega)
          have q240_240 : inZ s n 240 240 = true := inZ_t 240 240 (by omega) (by omega) (by omega)
          have q244_244 : inZ s n 244 244 = false := inZ_f 244 244 (by omega) (by omega) (by omega)
          have q240_244 : inZ s n 240 244 = true := inZ_t 240 244 (by omega) (by omega) (by omega)
          have HV := Lib.hid hv
          clear hv hb hb1 e1 r
          go_enter Tryd.func89, Tryd.ntmps89
          go_wp2_with (go_at_call 101; refine (within_any _ _ _ _ _ (by omega) hs (by omega) (by omega)).mono ?_; rintro e w' ⟨rfl, rfl⟩)
          go_ret
          exact ⟨by rw [HV.out]; rfl, rfl⟩
        | false =>
          have p3' : inB s (n + 3) 128 191 = false := by have h := p3; unfold inZ at h; rw [show ((n : Int) + 3).toNat = n + 3 by omega] at h; exact h
          have hv : chr s n = 0 := by unfold chr; rw [if_neg (by omega), if_neg (by omega), if_neg (by omega), if_pos (show byt s n = 240 by omega), if_neg (show ¬ byt s n = 244 by omega), if_neg (by rw [p3']; simp)]
          clear p1' p2' p3'
          have q0_127 : inZ s n 0 127 = false := inZ_f 0 127 (by omega) (by omega) (by omega)
          have q194_223 : inZ s n 194 223 = false := inZ_f 194 223 (by omega) (by omega) (by omega)
          have q224_224 : inZ s n 224 224 = false := inZ_f 224 224 (by omega) (by omega) (by omega)
          have q237_237 : inZ s n 237 237 = false := inZ_f 237 237 (by omega) (by omega) (by omega)
          have q224_239 : inZ s n 224 239 = false := inZ_f 224 239 (by omega) (by omega) (by omega)
          have q240_240 : inZ s n 240 240 = true := inZ_t 240 240 (by omega) (by omega) (by omega)
          have q244_244 : inZ s n 244 244 = false := inZ_f 244 244 (by omega) (by omega) (by omega)
          have q240_244 : inZ s n 240 244 = true := inZ_t 240 244 (by omega) (by omega) (by omega)
          have HV := Lib.hid hv
          clear hv hb hb1 e1 r
          go_enter Tryd.func89, Tryd.ntmps89
          go_wp2_with (go_at_call 101; refine (within_any _ _ _ _ _ (by omega) hs (by omega) (by omega)).mono ?_; rintro e w' ⟨rfl, rfl⟩)
          go_ret
          exact ⟨by rw [HV.out]; rfl, rfl⟩
      | false =>
        have p2' : inB s (n + 2) 128 191 = false := by have h := p2; unfold inZ at h; rw [show ((n : Int) + 2).toNat = n + 2 by omega] at h; exact h
        have hv : chr s n = 0 := by unfold chr; rw [if_neg (by omega), if_neg (by omega), if_neg (by omega), if_pos (show byt s n = 240 by omega), if_neg (show ¬ byt s n = 244 by omega), if_neg (by rw [p2']; simp)]
        clear p1' p2'
        have q0_127 : inZ s n 0 127 = false := inZ_f 0 127 (by omega) (by omega) (by omega)
        have q194_223 : inZ s n 194 223 = false := inZ_f 194 223 (by omega) (by omega) (by omega)
        have q224_224 : inZ s n 224 224 = false := inZ_f 224 224 (by omega) (by omega) (by omega)
        have q237_237 : inZ s n 237 237 = false := inZ_f 237 237 (by omega) (by omega) (by omega)
        have q224_239 : inZ s n 224 239 = false := inZ_f 224 239 (by omega) (by omega) (by omega)
        have q240_240 : inZ s n 240 240 = true := inZ_t 240 240 (by omega) (by omega) (by omega)
        have q244_244 : inZ s n 244 244 = false := inZ_f 244 244 (by omega) (by omega) (by omega)
        have q240_244 : inZ s n 240 244 = true := inZ_t 240 244 (by omega) (by omega) (by omega)
        have HV := Lib.hid hv
        clear hv hb hb1 e1 r
        go_enter Tryd.func89, Tryd.ntmps89
        go_wp2_with (go_at_call 101; refine (within_any _ _ _ _ _ (by omega) hs (by omega) (by omega)).mono ?_; rintro e w' ⟨rfl, rfl⟩)
        go_ret
        exact ⟨by rw [HV.out]; rfl, rfl⟩
    | false =>
      have p1' : inB s (n + 1) 144 191 = false := by have h := p1; unfold inZ at h; rw [show ((n : Int) + 1).toNat = n + 1 by omega] at h; exact h
      have hv : chr s n = 0 := by unfold chr; rw [if_neg (by omega), if_neg (by omega), if_neg (by omega), if_pos (show byt s n = 240 by omega), if_neg (show ¬ byt s n = 244 by omega), if_neg (by rw [p1']; simp)]
      clear p1'
      have q0_127 : inZ s n 0 127 = false := inZ_f 0 127 (by omega) (by omega) (by omega)
      have q194_223 : inZ s n 194 223 = false := inZ_f 194 223 (by omega) (by omega) (by omega)
      have q224_224 : inZ s n 224 224 = false := inZ_f 224 224 (by omega) (by omega) (by omega)
      have q237_237 : inZ s n 237 237 = false := inZ_f 237 237 (by omega) (by omega) (by omega)
      have q224_239 : inZ s n 224 239 = false := inZ_f 224 239 (by omega) (by omega) (by omega)
      have q240_240 : inZ s n 240 240 = true := inZ_t 240 240 (by omega) (by omega) (by omega)
      have q244_244 : inZ s n 244 244 = false := inZ_f 244 244 (by omega) (by omega) (by omega)
      have q240_244 : inZ s n 240 244 = true := inZ_t 240 244 (by omega) (by omega) (by omega)
      have HV := Lib.hid hv
      clear hv hb hb1 e1 r
      go_enter Tryd.func89, Tryd.ntmps89
      go_wp2_with (go_at_call 101; refine (within_any _ _ _ _ _ (by omega) hs (by omega) (by omega)).mono ?_; rintro e w' ⟨rfl, rfl⟩)
      go_ret
      exact ⟨by rw [HV.out]; rfl, rfl⟩
  · cases p1 : inZ s ((n : Int) + 1) 128 191 with
    | true =>
      have p1' : inB s (n + 1) 128 191 = true := by have h := p1; unfold inZ at h; rw [show ((n : Int) + 1).toNat = n + 1 by omega] at h; exact h
      cases p2 : inZ s ((n : Int) + 2) 128 191 with
      | true =>
        have p2' : inB s (n + 2) 128 191 = true := by have h := p2; unfold inZ at h; rw [show ((n : Int) + 2).toNat = n + 2 by omega] at h; exact h
        cases p3 : inZ s ((n : Int) + 3) 128 191 with
        | true =>
          have p3' : inB s (n + 3) 128 191 = true := by have h := p3; unfold inZ at h; rw [show ((n : Int) + 3).toNat = n + 3 by omega] at h; exact h
          have hv : chr s n = 4 := by unfold chr; rw [if_neg (by omega), if_neg (by omega), if_neg (by omega), if_neg (show ¬ byt s n = 240 by omega), if_neg (show ¬ byt s n = 244 by omega), if_pos ⟨by omega, by omega, p1', p2', p3'⟩]
          clear p1' p2' p3'
          have q0_127 : inZ s n 0 127 = false := inZ_f 0 127 (by omega) (by omega) (by omega)
          have q194_223 : inZ s n 194 223 = false := inZ_f 194 223 (by omega) (by omega) (by omega)
          have q224_224 : inZ s n 224 224 = false := inZ_f 224 224 (by omega) (by omega) (by omega)
          have q237_237 : inZ s n 237 237 = false := inZ_f 237 237 (by omega) (by omega) (by omega)
          have q224_239 : inZ s n 224 239 = false := inZ_f 224 239 (by omega) (by omega) (by omega)
          have q240_240 : inZ s n 240 240 = false := inZ_f 240 240 (by omega) (by omega) (by omega)
          have q244_244 : inZ s n 244 244 = false := inZ_f 244 244 (by omega) (by omega) (by omega)
          have q240_244 : inZ s n 240 244 = true := inZ_t 240 244 (by omega) (by omega) (by omega)
          have HV := Lib.hid hv
          clear hv hb hb1 e1 r
          go_enter Tryd.func89, Tryd.ntmps89
          go_wp2_with (go_at_call 101; refine (within_any _ _ _ _ _ (by omega) hs (by omega) (by omega)).mono ?_; rintro e w' ⟨rfl, rfl⟩)
          go_ret
          exact ⟨by rw [HV.out]; rfl, rfl⟩
        | false =>
          have p3' : inB s (n + 3) 128 191 = false := by have h := p3; unfold inZ at h; rw [show ((n : Int) + 3).toNat = n + 3 by omega] at h; exact h
          have hv : chr s n = 0 := by unfold chr; rw [if_neg (by omega), if_neg (by omega), if_neg (by omega), if_neg (show ¬ byt s n = 240 by omega), if_neg (show ¬ byt s n = 244 by omega), if_neg (by rw [p3']; simp)]
          clear p1' p2' p3'
          have q0_127 : inZ s n 0 127 = false := inZ_f 0 127 (by omega) (by omega) (by omega)
          have q194_223 : inZ s n 194 223 = false := inZ_f 194 223 (by omega) (by omega) (by omega)
          have q224_224 : inZ s n 224 224 = false := inZ_f 224 224 (by omega) (by omega) (by omega)
          have q237_237 : inZ s n 237 237 = false := inZ_f 237 237 (by omega) (by omega) (by omega)
          have q224_239 : inZ s n 224 239 = false := inZ_f 224 239 (by omega) (by omega) (by omega)
          have q240_240 : inZ s n 240 240 = false := inZ_f 240 240 (by omega) (by omega) (by omega)
          have q244_244 : inZ s n 244 244 = false := inZ_f 244 244 (by omega) (by omega) (by omega)
          have q240_244 : inZ s n 240 244 = true := inZ_t 240 244 (by omega) (by omega) (by omega)
          have HV := Lib.hid hv
          clear hv hb hb1 e1 r
          go_enter Tryd.func89, Tryd.ntmps89
          go_wp2_with (go_at_call 101; refine (within_any _ _ _ _ _ (by omega) hs (by omega) (by omega)).mono ?_; rintro e w' ⟨rfl, rfl⟩)
          go_ret
          exact ⟨by rw [HV.out]; rfl, rfl⟩
      | false =>
        have p2' : inB s (n + 2) 128 191 = false := by have h := p2; unfold inZ at h; rw [show ((n : Int) + 2).toNat = n + 2 by omega] at h; exact h
        have hv : chr s n = 0 := by unfold chr; rw [if_neg (by omega), if_neg (by omega), if_neg (by omega), if_neg (show ¬ byt s n = 240 by omega), if_neg (show ¬ byt s n = 244 by omega), if_neg (by rw [p2']; simp)]
        clear p1' p2'
        have q0_127 : inZ s n 0 127 = false := inZ_f 0 127 (by omega) (by omega) (by omega)
        have q194_223 : inZ s n 194 223 = false := inZ_f 194 223 (by omega) (by omega) (by omega)
        have q224_224 : inZ s n 224 224 = false := inZ_f 224 224 (by omega) (by omega) (by omega)
        have q237_237 : inZ s n 237 237 = false := inZ_f 237 237 (by omega) (by omega) (by omega)
        have q224_239 : inZ s n 224 239 = false := inZ_f 224 239 (by omega) (by omega) (by omega)
        have q240_240 : inZ s n 240 240 = false := inZ_f 240 240 (by omega) (by omega) (by omega)
        have q244_244 : inZ s n 244 244 = false := inZ_f 244 244 (by omega) (by omega) (by omega)
        have q240_244 : inZ s n 240 244 = true := inZ_t 240 244 (by omega) (by omega) (by omega)
        have HV := Lib.hid hv
        clear hv hb hb1 e1 r
        go_enter Tryd.func89, Tryd.ntmps89
        go_wp2_with (go_at_call 101; refine (within_any _ _ _ _ _ (by omega) hs (by omega) (by omega)).mono ?_; rintro e w' ⟨rfl, rfl⟩)
        go_ret
        exact ⟨by rw [HV.out]; rfl, rfl⟩
    | false =>
      have p1' : inB s (n + 1) 128 191 = false := by have h := p1; unfold inZ at h; rw [show ((n : Int) + 1).toNat = n + 1 by omega] at h; exact h
      have hv : chr s n = 0 := by unfold chr; rw [if_neg (by omega), if_neg (by omega), if_neg (by omega), if_neg (show ¬ byt s n = 240 by omega), if_neg (show ¬ byt s n = 244 by omega), if_neg (by rw [p1']; simp)]
      clear p1'
      have q0_127 : inZ s n 0 127 = false := inZ_f 0 127 (by omega) (by omega) (by omega)
      have q194_223 : inZ s n 194 223 = false := inZ_f 194 223 (by omega) (by omega) (by omega)
      have q224_224 : inZ s n 224 224 = false := inZ_f 224 224 (by omega) (by omega) (by omega)
      have q237_237 : inZ s n 237 237 = false := inZ_f 237 237 (by omega) (by omega) (by omega)
      have q224_239 : inZ s n 224 239 = false := inZ_f 224 239 (by omega) (by omega) (by omega)
      have q240_240 : inZ s n 240 240 = false := inZ_f 240 240 (by omega) (by omega) (by omega)
      have q244_244 : inZ s n 244 244 = false := inZ_f 244 244 (by omega) (by omega) (by omega)
      have q240_244 : inZ s n 240 244 = true := inZ_t 240 244 (by omega) (by omega) (by omega)
      have HV := Lib.hid hv
      clear hv hb hb1 e1 r
      go_enter Tryd.func89, Tryd.ntmps89
      go_wp2_with (go_at_call 101; refine (within_any _ _ _ _ _ (by omega) hs (by omega) (by omega)).mono ?_; rintro e w' ⟨rfl, rfl⟩)
      go_ret
      exact ⟨by rw [HV.out]; rfl, rfl⟩
  · cases p1 : inZ s ((n : Int) + 1) 128 143 with
    | true =>
      have p1' : inB s (n + 1) 128 143 = true := by have h := p1; unfold inZ at h; rw [show ((n : Int) + 1).toNat = n + 1 by omega] at h; exact h
      cases p2 : inZ s ((n : Int) + 2) 128 191 with
      | true =>
        have p2' : inB s (n + 2) 128 191 = true := by have h := p2; unfold inZ at h; rw [show ((n : Int) + 2).toNat = n + 2 by omega] at h; exact h
        cases p3 : inZ s ((n : Int) + 3) 128 191 with
        | true =>
          have p3' : inB s (n + 3) 128 191 = true := by have h := p3; unfold inZ at h; rw [show ((n : Int) + 3).toNat = n + 3 by omega] at h; exact h
          have hv : chr s n = 4 := by unfold chr; rw [if_neg (by omega), if_neg (by omega), if_neg (by omega), if_neg (show ¬ byt s n = 240 by omega), if_pos (show byt s n = 244 by omega), if_pos ⟨by omega, by omega, p1', p2', p3'⟩]
          clear p1' p2' p3'
          have q0_127 : inZ s n 0 127 = false := inZ_f 0 127 (by omega) (by omega) (by omega)
          have q194_223 : inZ s n 194 223 = false := inZ_f 194 223 (by omega) (by omega) (by omega)
          have q224_224 : inZ s n 224 224 = false := inZ_f 224 224 (by omega) (by omega) (by omega)
          have q237_237 : inZ s n 237 237 = false := inZ_f 237 237 (by omega) (by omega) (by omega)
          have q224_239 : inZ s n 224 239 = false := inZ_f 224 239 (by omega) (by omega) (by omega)
          have q240_240 : inZ s n 240 240 = false := inZ_f 240 240 (by omega) (by omega) (by omega)
          have q244_244 : inZ s n 244 244 = true := inZ_t 244 244 (by omega) (by omega) (by omega)
          have q240_244 : inZ s n 240 244 = true := inZ_t 240 244 (by omega) (by omega) (by omega)
          have HV := Lib.hid hv
          clear hv hb hb1 e1 r
          go_enter Tryd.func89, Tryd.ntmps89
          go_wp2_with (go_at_call 101; refine (within_any _ _ _ _ _ (by omega) hs (by omega) (by omega)).mono ?_; rintro e w' ⟨rfl, rfl⟩)
          go_ret
          exact ⟨by rw [HV.out]; rfl, rfl⟩
        | false =>
          have p3' : inB s (n + 3) 128 191 = false := by have h := p3; unfold inZ at h; rw [show ((n : Int) + 3).toNat = n + 3 by omega] at h; exact h
          have hv : chr s n = 0 := by unfold chr; rw [if_neg (by omega), if_neg (by omega), if_neg (by omega), if_neg (show ¬ byt s n = 240 by omega), if_pos (show byt s n = 244 by omega), if_neg (by rw [p3']; simp)]
          clear p1' p2' p3'
          have q0_127 : inZ s n 0 127 = false := inZ_f 0 127 (by omega) (by omega) (by omega)
          have q194_223 : inZ s n 194 223 = false := inZ_f 194 223 (by omega) (by omega) (by omega)
          have q224_224 : inZ s n 224 224 = false := inZ_f 224 224 (by omega) (by omega) (by omega)
          have q237_237 : inZ s n 237 237 = false := inZ_f 237 237 (by omega) (by omega) (by omega)
          have q224_239 : inZ s n 224 239 = false := inZ_f 224 239 (by omega) (by omega) (by omega)
          have q240_240 : inZ s n 240 240 = false := inZ_f 240 240 (by omega) (by omega) (by omega)
          have q244_244 : inZ s n 244 244 = true := inZ_t 244 244 (by omega) (by omega) (by omega)
          have q240_244 : inZ s n 240 244 = true := inZ_t 240 244 (by omega) (by omega) (by omega)
          have HV := Lib.hid hv
          clear hv hb hb1 e1 r
          go_enter Tryd.func89, Tryd.ntmps89
          go_wp2_with (go_at_call 101; refine (within_any _ _ _ _ _ (by omega) hs (by omega) (by omega)).mono ?_; rintro e w' ⟨rfl, rfl⟩)
          go_ret
          exact ⟨by rw [HV.out]; rfl, rfl⟩
      | false =>
        have p2' : inB s (n + 2) 128 191 = false := by have h := p2; unfold inZ at h; rw [show ((n : Int) + 2).toNat = n + 2 by omega] at h; exact h
        have hv : chr s n = 0 := by unfold chr; rw [if_neg (by omega), if_neg (by omega), if_neg (by omega), if_neg (show ¬ byt s n = 240 by omega), if_pos (show byt s n = 244 by omega), if_neg (by rw [p2']; simp)]
        clear p1' p2'
        have q0_127 : inZ s n 0 127 = false := inZ_f 0 127 (by omega) (by omega) (by omega)
        have q194_223 : inZ s n 194 223 = false := inZ_f 194 223 (by omega) (by omega) (by omega)
        have q224_224 : inZ s n 224 224 = false := inZ_f 224 224 (by omega) (by omega) (by omega)
        have q237_237 : inZ s n 237 237 = false := inZ_f 237 237 (by omega) (by omega) (by omega)
        have q224_239 : inZ s n 224 239 = false := inZ_f 224 239 (by omega) (by omega) (by omega)
        have q240_240 : inZ s n 240 240 = false := inZ_f 240 240 (by omega) (by omega) (by omega)
        have q244_244 : inZ s n 244 244 = true := inZ_t 244 244 (by omega) (by omega) (by omega)
        have q240_244 : inZ s n 240 244 = true := inZ_t 240 244 (by omega) (by omega) (by omega)
        have HV := Lib.hid hv
        clear hv hb hb1 e1 r
        go_enter Tryd.func89, Tryd.ntmps89
        go_wp2_with (go_at_call 101; refine (within_any _ _ _ _ _ (by omega) hs (by omega) (by omega)).mono ?_; rintro e w' ⟨rfl, rfl⟩)
        go_ret
        exact ⟨by rw [HV.out]; rfl, rfl⟩
    | false =>
      have p1' : inB s (n + 1) 128 143 = false := by have h := p1; unfold inZ at h; rw [show ((n : Int) + 1).toNat = n + 1 by omega] at h; exact h
      have hv : chr s n = 0 := by unfold chr; rw [if_neg (by omega), if_neg (by omega), if_neg (by omega), if_neg (show ¬ byt s n = 240 by omega), if_pos (show byt s n = 244 by omega), if_neg (by rw [p1']; simp)]
      clear p1'
      have q0_127 : inZ s n 0 127 = false := inZ_f 0 127 (by omega) (by omega) (by omega)
      have q194_223 : inZ s n 194 223 = false := inZ_f 194 223 (by omega) (by omega) (by omega)
      have q224_224 : inZ s n 224 224 = false := inZ_f 224 224 (by omega) (by omega) (by omega)
      have q237_237 : inZ s n 237 237 = false := inZ_f 237 237 (by omega) (by omega) (by omega)
      have q224_239 : inZ s n 224 239 = false := inZ_f 224 239 (by omega) (by omega) (by omega)
      have q240_240 : inZ s n 240 240 = false := inZ_f 240 240 (by omega) (by omega) (by omega)
      have q244_244 : inZ s n 244 244 = true := inZ_t 244 244 (by omega) (by omega) (by omega)
      have q240_244 : inZ s n 240 244 = true := inZ_t 240 244 (by omega) (by omega) (by omega)
      have HV := Lib.hid hv
      clear hv hb hb1 e1 r
      go_enter Tryd.func89, Tryd.ntmps89
      go_wp2_with (go_at_call 101; refine (within_any _ _ _ _ _ (by omega) hs (by omega) (by omega)).mono ?_; rintro e w' ⟨rfl, rfl⟩)
      go_ret
      exact ⟨by rw [HV.out]; rfl, rfl⟩
  · have hv : chr s n = 0 := by unfold chr; rw [if_neg (by omega), if_neg (by omega), if_neg (by omega), if_neg (by omega)]
    have q0_127 : inZ s n 0 127 = false := inZ_f 0 127 (by omega) (by omega) (by omega)
    have q194_223 : inZ s n 194 223 = false := inZ_f 194 223 (by omega) (by omega) (by omega)
    have q224_224 : inZ s n 224 224 = false := inZ_f 224 224 (by omega) (by omega) (by omega)
    have q237_237 : inZ s n 237 237 = false := inZ_f 237 237 (by omega) (by omega) (by omega)
    have q224_239 : inZ s n 224 239 = false := inZ_f 224 239 (by omega) (by omega) (by omega)
    have q240_240 : inZ s n 240 240 = false := inZ_f 240 240 (by omega) (by omega) (by omega)
    have q244_244 : inZ s n 244 244 = false := inZ_f 244 244 (by omega) (by omega) (by omega)
    have q240_244 : inZ s n 240 244 = false := inZ_f 240 244 (by omega) (by omega) (by omega)
    have HV := Lib.hid hv
    clear hv hb hb1 e1 r
    go_enter Tryd.func89, Tryd.ntmps89
    go_wp2_with (go_at_call 101; refine (within_any _ _ _ _ _ (by omega) hs (by omega) (by omega)).mono ?_; rintro e w' ⟨rfl, rfl⟩)
    go_ret
    exact ⟨by rw [HV.out]; rfl, rfl⟩
end Go.Proofs.YtfbcdhcgmncklaaDoor
