/- wire.Good, names.Check, nodes.mayUser, nodes.mayMode: what they answer, whatever they are given. -/
import Derived.Test.YtfbcdhcgmncklaaDoorLocks
import Derived.Test.YtfbcdhcgmncklaaDoorShelf
import Derived.Test.YtfbcdhcgmncklaaDoorBase
import Derived.Test.YtfbcdhcgmncklaaDoorSpec
import Derived.Lib.OthersKept
import Derived.WalkSmall
import Derived.Outline
namespace Go.Proofs.YtfbcdhcgmncklaaDoor
open Go Go.RowKit Go.Nd
set_option maxRecDepth 100000

/-- The tables of package unicode/utf8, as they are laid. -/
abbrev G (w : World) : Prop := Lib.Utf8Tabs 0 1 w

theorem G.below {w w' : World} (h : G w) {B : Nat} (hB : 0 < B ∧ 1 < B) (hb : Below B w w') : G w' :=
  ⟨fun c hc => (hb.cell (p := ⟨0, c, none⟩) hB.1).trans (h.1 c hc),
   fun i hi => ⟨(hb.cell (p := ⟨1, 2 * i, none⟩) hB.2).trans (h.2 i hi).1, (hb.cell (p := ⟨1, 2 * i + 1, none⟩) hB.2).trans (h.2 i hi).2⟩⟩
/-- The tables are there, and lie below block B. -/
structure GB (B : Nat) (w : World) : Prop where
  g : G w
  b1 : 0 < B
  b2 : 1 < B
  b3 : B ≤ w.heap.size
theorem GB.keep {B : Nat} {w w' : World} {S : Nat → Prop} (h : GB B w) (k : Keep w w' S) (hS : ∀ b, S b → B ≤ b) : GB B w' :=
  ⟨h.g.below ⟨h.b1, h.b2⟩ ⟨k.os, k.tape, k.output, k.size, fun i hi => k.block i (Nat.lt_of_lt_of_le hi h.b3) (fun hs => by have := hS i hs; omega)⟩, h.b1, h.b2, Nat.le_trans h.b3 k.size⟩
theorem GB.below {B : Nat} {w w' : World} (h : GB B w) (k : Below w.heap.size w w') : GB B w' := h.keep (S := fun _ => False) (Keep.of_below k _) (fun _ x => x.elim)

theorem decode_tail (s : ByteArray) (pos : Nat) (hp : pos < s.size) (w : World) (hT : G w) :
    Calls Tryd.prog 88 #[.string (s.extract pos s.size)] w fun e w' => e = .returned (.tuple #[.int .i32 (Utf8.decode s pos).1, .int .i64 (Utf8.decode s pos).2]) ∧ Below w.heap.size w w' := by
  have h := Tryd.utf8_DecodeRuneInString (s.extract pos s.size) w hT
  have e : Lib.decodeGo (s.extract pos s.size) = Utf8.decode s pos := by
    unfold Lib.decodeGo
    rw [Lib.tail_size, if_neg (by omega), Lib.tail_decode, Nat.add_zero]
  rwa [e] at h

set_option maxHeartbeats 1000000 in
theorem bad_any (s : ByteArray) (w : World) (B : Nat) (hB : GB B w) (_hs : s.size ≤ 4611686018427387904) :
    Calls Tryd.prog 78 #[.string s] w fun e w' => e = .returned (.int .i64 (bad s)) ∧ Below w.heap.size w w' := by
  go_enter Tryd.func78, Tryd.ntmps78
  go_wp2
  go_loopw [3] (fun _ wr => ∃ (pos fuel : Nat), wr.heap[w.heap.size]? = some (.stringIter s pos) ∧ Below w.heap.size w wr ∧ Hid (badFrom s fuel pos = bad s) ∧ s.size ≤ pos + fuel) (fun _ wr => s.size - wr.iterPos w.heap.size)
  case atStart => exact ⟨0, s.size, World.iter_heap w s 0, (Below.refl _ _).alloc (Nat.le_refl _) _, rfl, by omega⟩
  case round =>
    obtain ⟨pos, fuel, hit, hbw, HS, hb⟩ := hrel
    have hpos0 := iterPos_of hit
    by_cases hp : pos < s.size
    · have hnx : ∀ ty, (Instr.next (.pointer (some ⟨w.heap.size, 0, none⟩)) true ty).run Tryd.prog wr = _ := fun ty => Lib.run_next_any_at wr w.heap.size s pos ty hit hp
      have hwd := Lib.decode_width_pos s pos hp
      obtain ⟨fuel, rfl⟩ : ∃ f', fuel = f' + 1 := ⟨fuel - 1, by omega⟩
      have hit2 := Lib.iterAt_heap wr w.heap.size s pos (pos + (Utf8.decode s pos).2) hit
      have hbw2 := Lib.below_iterAt hbw (k := w.heap.size) (Nat.le_refl _) s (pos + (Utf8.decode s pos).2)
      have hS := HS.out
      unfold badFrom at hS
      rw [if_pos hp] at hS
      have htd := Lib.tail_decode s pos 0
      rw [Nat.add_zero] at htd
      generalize hW1 : wr.iterAt w.heap.size s (pos + (Utf8.decode s pos).2) = W1 at hnx hit2 hbw2
      generalize hdec : Utf8.decode s pos = rk at hnx hit2 hbw2 hwd hS htd
      obtain ⟨r, k⟩ := rk
      simp only at hnx hit2 hbw2 hwd hS htd
      clear hW1 hit hbw
      by_cases h0 : r = 0
      · subst h0
        rw [if_pos rfl] at hS
        have HS1 := Lib.hid hS
        clear hS HS hdec htd
        go_wp2
        go_ret
        exact ⟨ret_int HS1.out, hbw2⟩
      · rw [if_neg h0] at hS
        have t0 : ((r : Int) == 0) = false := by rw [beq_eq_false_iff_ne]; omega
        by_cases h1 : r = 65533
        · subst h1
          have HD := Lib.hid hdec
          have HS1 := Lib.hid hS
          have HT := Lib.hid htd
          clear hS HS hdec htd
          have hT1 : G W1 := (hB.below hbw2).g
          have hc := decode_tail s pos hp W1 hT1
          rw [HD.out] at hc
          go_wp2_with fail
          refine hc.mono ?_
          rintro e w' ⟨rfl, hb2⟩
          have hit3 : w'.heap[w.heap.size]? = some (.stringIter s (pos + k)) := (hb2.block _ (lt_of_block hit2)).trans hit2
          have hbw3 := hbw2.trans (hb2.mono hbw2.size)
          clear hc hit2 hbw2 hT1 hb2
          by_cases hk : k = 1
          · subst hk
            have HS2 := Lib.hid HS1.out
            clear HS1 HD HT
            go_wp2
            go_ret
            have hS := HS2.out
            rw [if_pos (by simp)] at hS
            exact ⟨ret_int hS, hbw3⟩
          · have t1 : ((k : Int) == 1) = false := by rw [beq_eq_false_iff_ne]; omega
            go_wp2
            go_roundw
            case rel =>
              have hS := HS1.out
              rw [if_neg (fun h => hk h.2)] at hS
              exact ⟨_, fuel, hit3, hbw3, hS, by omega⟩
            case measure => rw [iterPos_of hit3]; omega
        · rw [if_neg (fun h => h1 h.1)] at hS
          have t1 : ((r : Int) == 65533) = false := by rw [beq_eq_false_iff_ne]; omega
          have HS1 := Lib.hid hS
          clear hS HS hdec htd
          go_wp2
          go_roundw
          case rel => exact ⟨_, fuel, hit2, hbw2, HS1.out, by omega⟩
          case measure => rw [iterPos_of hit2]; omega
    · have hnx : ∀ ty, (Instr.next (.pointer (some ⟨w.heap.size, 0, none⟩)) true ty).run Tryd.prog wr = _ := fun ty => Lib.run_next_end_at wr w.heap.size s pos ty hit hp
      go_wp2
      go_ret
      have hS := HS.out
      have : badFrom s fuel pos = -1 := by cases fuel <;> simp [badFrom, hp]
      exact ⟨ret_int (by rw [← hS, this]), hbw⟩

theorem good_any (s : ByteArray) (w : World) (B : Nat) (hB : GB B w) (hs : s.size ≤ 4611686018427387904) :
    Calls Tryd.prog 55 #[.string s] w fun e w' => e = .returned (.bool (good s)) ∧ Below w.heap.size w w' := by
  go_enter Tryd.func55, Tryd.ntmps55
  go_wp2_with (go_at_call 78; refine (bad_any _ _ B hB hs).mono ?_; rintro e w' ⟨rfl, hb⟩)
  go_ret
  exact ⟨rfl, hb⟩

theorem mayUser_any (s : ByteArray) (w : World) (B : Nat) (hB : GB B w) (hs : s.size ≤ 4611686018427387904) :
    Calls Tryd.prog 34 #[.string s] w fun e w' => e = .returned (.bool (userOk s)) ∧ Below w.heap.size w w' := by
  by_cases h : s.size ≤ 32
  · have hd : decide ((s.size : Int) ≤ 32) = true := by simp; omega
    go_enter Tryd.func34, Tryd.ntmps34
    go_wp2_with (go_at_call 55; refine (good_any _ _ B hB hs).mono ?_; rintro e w' ⟨rfl, hb⟩)
    go_ret
    exact ⟨ret_bool (by simp [userOk, h]), hb⟩
  · have hd : decide ((s.size : Int) ≤ 32) = false := by simp; omega
    go_enter Tryd.func34, Tryd.ntmps34
    go_wp2_with (go_at_call 55; refine (good_any _ _ B hB hs).mono ?_; rintro e w' ⟨rfl, hb⟩)
    go_ret
    exact ⟨ret_bool (by simp [userOk, h]), Below.refl _ _⟩

theorem mayMode_any (m : Int) (w : World) :
    Calls Tryd.prog 70 #[.int .u32 m] w fun e w' => e = .returned (.bool (modeOk m)) ∧ w = w' := by
  go_enter Tryd.func70, Tryd.ntmps70
  go_wp2
  go_ret
  exact ⟨rfl, rfl⟩

theorem check_any (s : ByteArray) (w : World) (B : Nat) (hB : GB B w) (hs : s.size ≤ 4611686018427387904) :
    Calls Tryd.prog 81 #[.string s] w fun e w' => e = .returned (.int .i64 (nameErr s)) ∧ Below w.heap.size w w' := by
  by_cases h4 : s.size ≤ 255
  · have n4 : decide (255 < (s.size : Int)) = false := by simp; omega
    cases h1 : s.toList.isEmpty with
    | true =>
      go_enter Tryd.func81, Tryd.ntmps81
      go_wp2_with (first | (go_at_call 90; refine (Tryd.strings_Contains_one _ _ _).mono ?_; rintro e w' ⟨rfl, rfl⟩) | (go_at_call 55; refine (good_any _ _ B hB hs).mono ?_; rintro e w' ⟨rfl, hb⟩))
      go_ret
      exact ⟨ret_int (by simp [nameErr, nameOk, h1]), Below.refl _ _⟩
    | false =>
      cases h2 : s.toList == [46] with
      | true =>
        go_enter Tryd.func81, Tryd.ntmps81
        go_wp2_with (first | (go_at_call 90; refine (Tryd.strings_Contains_one _ _ _).mono ?_; rintro e w' ⟨rfl, rfl⟩) | (go_at_call 55; refine (good_any _ _ B hB hs).mono ?_; rintro e w' ⟨rfl, hb⟩))
        go_ret
        exact ⟨ret_int (by simp [nameErr, nameOk, h2]), Below.refl _ _⟩
      | false =>
        cases h3 : s.toList == [46, 46] with
        | true =>
          go_enter Tryd.func81, Tryd.ntmps81
          go_wp2_with (first | (go_at_call 90; refine (Tryd.strings_Contains_one _ _ _).mono ?_; rintro e w' ⟨rfl, rfl⟩) | (go_at_call 55; refine (good_any _ _ B hB hs).mono ?_; rintro e w' ⟨rfl, hb⟩))
          go_ret
          exact ⟨ret_int (by simp [nameErr, nameOk, h3]), Below.refl _ _⟩
        | false =>
          cases h5 : decide (0 ≤ Lib.indexByte s.data.toList 47) with
          | true =>
            go_enter Tryd.func81, Tryd.ntmps81
            go_wp2_with (first | (go_at_call 90; refine (Tryd.strings_Contains_one _ _ _).mono ?_; rintro e w' ⟨rfl, rfl⟩) | (go_at_call 55; refine (good_any _ _ B hB hs).mono ?_; rintro e w' ⟨rfl, hb⟩))
            go_ret
            exact ⟨ret_int (by simp [nameErr, nameOk, h5]), Below.refl _ _⟩
          | false =>
            cases h6 : good s with
            | true =>
              go_enter Tryd.func81, Tryd.ntmps81
              go_wp2_with (first | (go_at_call 90; refine (Tryd.strings_Contains_one _ _ _).mono ?_; rintro e w' ⟨rfl, rfl⟩) | (go_at_call 55; refine (good_any _ _ B hB hs).mono ?_; rintro e w' ⟨rfl, hb⟩))
              go_ret
              exact ⟨ret_int (by simp [nameErr, nameOk, h1, h2, h3, h4, h5, h6]), hb⟩
            | false =>
              go_enter Tryd.func81, Tryd.ntmps81
              go_wp2_with (first | (go_at_call 90; refine (Tryd.strings_Contains_one _ _ _).mono ?_; rintro e w' ⟨rfl, rfl⟩) | (go_at_call 55; refine (good_any _ _ B hB hs).mono ?_; rintro e w' ⟨rfl, hb⟩))
              go_ret
              exact ⟨ret_int (by simp [nameErr, nameOk, h6]), hb⟩
  · have n4 : decide (255 < (s.size : Int)) = true := by simp; omega
    cases h1 : s.toList.isEmpty with
    | true =>
      go_enter Tryd.func81, Tryd.ntmps81
      go_wp2_with (first | (go_at_call 90; refine (Tryd.strings_Contains_one _ _ _).mono ?_; rintro e w' ⟨rfl, rfl⟩) | (go_at_call 55; refine (good_any _ _ B hB hs).mono ?_; rintro e w' ⟨rfl, hb⟩))
      go_ret
      exact ⟨ret_int (by simp [nameErr, nameOk, h1]), Below.refl _ _⟩
    | false =>
      cases h2 : s.toList == [46] with
      | true =>
        go_enter Tryd.func81, Tryd.ntmps81
        go_wp2_with (first | (go_at_call 90; refine (Tryd.strings_Contains_one _ _ _).mono ?_; rintro e w' ⟨rfl, rfl⟩) | (go_at_call 55; refine (good_any _ _ B hB hs).mono ?_; rintro e w' ⟨rfl, hb⟩))
        go_ret
        exact ⟨ret_int (by simp [nameErr, nameOk, h2]), Below.refl _ _⟩
      | false =>
        cases h3 : s.toList == [46, 46] with
        | true =>
          go_enter Tryd.func81, Tryd.ntmps81
          go_wp2_with (first | (go_at_call 90; refine (Tryd.strings_Contains_one _ _ _).mono ?_; rintro e w' ⟨rfl, rfl⟩) | (go_at_call 55; refine (good_any _ _ B hB hs).mono ?_; rintro e w' ⟨rfl, hb⟩))
          go_ret
          exact ⟨ret_int (by simp [nameErr, nameOk, h3]), Below.refl _ _⟩
        | false =>
          go_enter Tryd.func81, Tryd.ntmps81
          go_wp2_with (first | (go_at_call 90; refine (Tryd.strings_Contains_one _ _ _).mono ?_; rintro e w' ⟨rfl, rfl⟩) | (go_at_call 55; refine (good_any _ _ B hB hs).mono ?_; rintro e w' ⟨rfl, hb⟩))
          go_ret
          exact ⟨ret_int (by simp [nameErr, nameOk, h4]), Below.refl _ _⟩
end Go.Proofs.YtfbcdhcgmncklaaDoor
