/- (*node).put, where it writes. -/
import Derived.Test.YtfbcdhcgmncklaaDoorPut0
import Derived.Test.YtfbcdhcgmncklaaDoorTell
import Derived.Deep.LoopGhost
import Derived.Deep.RegionHeld3
import Derived.StillTailTactics
import Derived.Maps.OwnSet
import Derived.Laws.OwnMore
namespace Go.Proofs.YtfbcdhcgmncklaaDoor
open Go Go.RowKit Go.Nd Go.Maps Go.MuLone Go.RwLone
set_option maxRecDepth 100000

theorem infoP : (Tryd.prog.info? 122).map (fun i => (i.zero, i.size, i.bytes)) = some (some (.pointer none), 1, 8) := by kernel_rfl

theorem addp (b o j : Nat) : (⟨b, o, none⟩ : Addr).add j = ⟨b, o + j, none⟩ := by
  unfold Addr.add; split <;> simp_all
theorem al256 : Tryd.prog.arrayLen 123 = 256 := by kernel_rfl
theorem ar256 : Tryd.prog.underlying 123 = some (.array (Tryd.prog.arrayLen 123) (Tryd.prog.elem 123)) := by kernel_rfl
theorem el256 : Tryd.prog.elem 123 = 5 := by kernel_rfl
theorem slice256 (W : World) (b r : Nat) (hr : r < 256) : (Instr.sliceAt 123 (.pointer (some ⟨b, 0, none⟩)) (some (.int .u64 r)) none none).run Tryd.prog W = .ok (.slice (some ⟨b, r, none⟩) (256 - r) (256 - r)) W := by
  rw [run_sliceAt_array_l W _ _ ar256 .u64 r (by omega) (by rw [al256]; omega), el256, Tryd.sizeOf5, al256]
  have : 256 ≠ r := by omega
  simp only [Result.andThen, slicedAt, Addr.add, Int.toNat_natCast, if_neg this]
  by_cases h0 : r = 0
  · subst h0; rfl
  · simp [h0]
theorem ptr_snoc (bs : List (Option Nat)) (k : Nat) : (bs ++ List.replicate k none).map ptrV ++ [.pointer none] = (bs ++ List.replicate (k + 1) none).map ptrV := by
  rw [List.replicate_succ', ← List.append_assoc, List.map_append (l₂ := [none])]; rfl

theorem zero256 : Tryd.zeroCells123 = (List.replicate 256 (Value.int .u8 0)).toArray := by kernel_rfl
theorem size5 : (Tryd.prog.info? 5).map (·.size) = some 1 := by kernel_rfl
theorem dataCells_size (d : Nat → Int) (k : Nat) : (dataCells d k).size = 256 := by simp [dataCells]
theorem dataCells_zero {d : Nat → Int} {k : Nat} (h : ∀ j, j < 256 → d (256 * k + j) = 0) : dataCells d k = Tryd.zeroCells123 := by
  rw [zero256]
  unfold dataCells
  congr 1
  apply List.ext_getElem?
  intro j
  rw [List.getElem?_map, List.getElem?_replicate]
  by_cases hj : j < 256
  · rw [List.getElem?_range hj, if_pos hj]; simp [h j hj]
  · rw [if_neg hj, List.getElem?_eq_none (by simp; omega)]; rfl
theorem u8s_get (l : List Int) (j : Nat) : (u8s l)[j]? = (l[j]?).map (Value.int .u8) := by simp [u8s]
/-- Bytes laid over a block. -/
theorem dataCells_put (d : Nat → Int) {off : Int} {q r : Nat} (hq : off / 256 = q) (hr : off % 256 = r) (l : List Int) (h : l.length ≤ 256 - r) :
    (((dataCells d q).toList.take r ++ u8s l ++ (dataCells d q).toList.drop (r + l.length)).toArray) = dataCells (putData d off.toNat l) q := by
  have ho : off.toNat = 256 * q + r := by omega
  have hr2 : r < 256 := by omega
  rw [ho]
  unfold dataCells
  congr 1
  apply List.ext_getElem?
  intro j
  rw [List.append_assoc, List.getElem?_append, List.getElem?_append]
  simp only [List.length_take, List.length_map, List.length_range, u8s_get, List.getElem?_take, List.getElem?_drop, List.getElem?_map, Nat.min_eq_left (Nat.le_of_lt hr2), show (u8s l).length = l.length by simp [u8s]]
  by_cases h1 : j < r
  · rw [if_pos h1, if_pos h1, List.getElem?_range (by omega)]
    simp only [Option.map_some, putData]
    rw [if_neg (by omega)]
  · rw [if_neg h1]
    by_cases h2 : j - r < l.length
    · rw [if_pos h2, List.getElem?_range (by omega)]
      simp only [Option.map_some, putData]
      rw [if_pos (by omega), List.getElem?_eq_getElem h2]
      have e : 256 * q + j - (256 * q + r) = j - r := by omega
      simp [e, List.getD, h2]
    · rw [if_neg h2]
      have e : r + l.length + (j - r - l.length) = j := by omega
      rw [e]
      by_cases h3 : j < 256
      · rw [List.getElem?_range h3]
        simp only [Option.map_some, putData]
        rw [if_neg (by omega)]
      · rw [List.getElem?_eq_none (by simp; omega)]; rfl

structure PutOk (w w' : World) (nb : Nat) (a : Int) (f : Inf) (kv bv : Value) (T : TypeId) (off : Int) (q : Nat) (bs : List (Option Nat)) (d : Nat → Int) (l : List Int) (bv' : Value) (bs' : List (Option Nat)) (db : Nat) : Prop where
  nrow : row w' nb = some (nodeC a { f with len := max f.len (off + l.length) } kv bv', T)
  brow : w'.ownsRow 0 122 1 bv' bs'.length (bs'.map ptrV)
  len : bs'.length ≤ 256
  ge : bs.length ≤ bs'.length
  at_q : bs'[q]? = some (some db)
  off_q : ∀ k, k ≠ q → bs'[k]? = bs[k]? ∨ (bs.length ≤ k ∧ bs'[k]? = some none)
  bloc : bv'.ownBlock = bv.ownBlock ∨ ∃ x, bv'.ownBlock = some x ∧ w.heap.size ≤ x ∧ x < w'.heap.size ∧ x ≠ db
  dnew : bs[q]? = some (some db) ∨ ((∀ b, bs[q]? ≠ some (some b)) ∧ w.heap.size ≤ db ∧ db < w'.heap.size)
  drow : row w' db = some (dataCells (putData d off.toNat l) q, 123)
  keep : Keep w w' (fun b => b = nb ∨ bv.ownBlock = some b ∨ bs[q]? = some (some b))

theorem bs_at {bs : List (Option Nat)} {k q : Nat} {o : Option Nat} (h : (bs ++ List.replicate k none)[q]? = some o) : bs[q]? = some o ∨ (bs.length ≤ q ∧ o = none) := by
  rw [List.getElem?_append] at h
  split at h
  · exact .inl h
  · rename_i hh
    rw [List.getElem?_replicate] at h
    split at h
    · cases h; exact .inr ⟨by omega, rfl⟩
    · cases h
theorem bs_off (bs : List (Option Nat)) (k q j : Nat) (o : Option Nat) (hj : j ≠ q) : ((bs ++ List.replicate k none).set q o)[j]? = bs[j]? ∨ (bs.length ≤ j ∧ ((bs ++ List.replicate k none).set q o)[j]? = some none) := by
  rw [List.getElem?_set_ne (Ne.symm hj), List.getElem?_append]
  split
  · exact .inl rfl
  · rename_i h
    rw [List.getElem?_replicate]
    split
    · exact .inr ⟨by omega, rfl⟩
    · exact .inl (List.getElem?_eq_none (by omega)).symm

set_option maxHeartbeats 4000000 in
theorem put_ok {w : World} {nb : Nat} {a : Int} {f : Inf} {kv bv : Value} {T : TypeId} (hn : row w nb = some (nodeC a f kv bv, T)) {off : Int} (o0 : 0 ≤ off) (o1 : off < 18446744073709551616)
    {q r : Nat} (hq : off / 256 = q) (hr : off % 256 = r) {bs : List (Option Nat)} (hbs : bs.length ≤ 256) (hbr : w.ownsRow 0 122 1 bv bs.length (bs.map ptrV)) (hbn : bv.ownBlock ≠ some nb)
    {l : List Int} {dl : Nat} (hdl : l.length = dl) {sb so : Nat} (dc : Nat) (hsrc : ∀ j v, (u8s l)[j]? = some v → w.cell? ((⟨sb, so, none⟩ : Addr).add j) = some v) (hsb : sb ≠ nb) (hsb2 : bv.ownBlock ≠ some sb) (hsl0 : sb < w.heap.size)
    {d : Nat → Int} (hold : ∀ b, bs[q]? = some (some b) → row w b = some (dataCells d q, 123) ∧ b ≠ nb ∧ bv.ownBlock ≠ some b) (hnew : (∀ b, bs[q]? ≠ some (some b)) → ∀ j, j < 256 → d (256 * q + j) = 0) (h : isDir f.mode = false) (h0 : dl ≠ 0) (h2 : (dl : Int) ≤ 256 - r) (h3 : off ≤ 65536 - (dl : Int)) :
    Calls Tryd.prog 45 #[.pointer (some ⟨nb, 0, none⟩), .int .u64 off, .slice (some ⟨sb, so, none⟩) dl dc] w fun e w' => e = .returned (.int .i64 0) ∧ ∃ bv' bs' db, PutOk w w' nb a f kv bv T off q bs d l bv' bs' db := by
  have hnl := row_lt hn
  have c5 : w.cell? ⟨nb, 5, none⟩ = some (.int .u32 f.mode) := cell_row hn
  have HN := Lib.hid hn
  have HB := Lib.hid hbr
  clear hn hbr
  have t : (bits .and .u32 f.mode 2147483648 != 0) = false := h
  have e0 : ((dl : Int) == 0) = false := by rw [beq_eq_false_iff_ne]; omega
  clear h
  have HO := Lib.hid hold
  have HW := Lib.hid hnew
  have HSR := Lib.hid hsrc
  clear hold hnew hsrc
  obtain ⟨i0, hi, hz0, hz1, hz2⟩ := info_parts infoP
  go_enter Tryd.func45, Tryd.ntmps45
  go_wp2_with fail
  simp only [hq, hr]
  go_loopg [] (257 - bs.length) (fun g wr => ∃ (k : Nat) (bvr : Value), (bs.length + k ≤ q + 1 ∨ k = 0) ∧ wr.ownsRow 0 122 1 bvr (bs.length + k) ((bs ++ List.replicate k none).map ptrV) ∧ row wr nb = some (nodeC a f kv bvr, T) ∧
    Keep w wr (fun b => b = nb ∨ bv.ownBlock = some b) ∧ (bvr.ownBlock = bv.ownBlock ∨ ∃ x, bvr.ownBlock = some x ∧ w.heap.size ≤ x) ∧ bs.length + k ≤ 256 ∧ g + (bs.length + k) = 257)
  case atStart => exact ⟨0, bv, .inr rfl, by simpa using HB.out, HN.out, Keep.refl _ _, .inl rfl, by omega, by omega⟩
  case round =>
    obtain ⟨k, bvr, hkq, hov, hr, hk, hl, hle, hg⟩ := hrel
    have hnl2 := row_lt hr
    have c16 : wr.cell? ⟨nb, 16, none⟩ = some bvr := cell_row hr
    obtain ⟨va, vc, rfl⟩ := ownsRow_slice hov
    by_cases hat : ((bs.length + k : Nat) : Int) ≤ q
    · have HR := Lib.hid hr
      have HK := Lib.hid hk
      have HL := Lib.hid hl
      clear hr hk hl
      go_wp2_with (first
        | (at_builtin; refine wpList_append_own_at _ rfl _ _ 90 rfl 0 122 i0 (.pointer none) 1 8 Tryd.underlying90 hi hz0 hz1 hz2 rfl (by decide) _ _ _ rfl (hov.alloc _) ⟨wr.heap.size, 0, none⟩ 1 1 [.pointer none] rfl rfl (cell_one_new _ _ _) (by simp [Value.oneCell']) (by unfold maxLen; omega) (by omega) (Nat.zero_le _) ?_
           intro ov' w9 hov9 hg9 hnil9 hloc9
           have k9 : Keep wr w9 (fun b => (Value.slice va (bs.length + k) vc).ownBlock = some b) := (Keep.of_grown hg9 (fun _ h => h)).after (fun _ _ h => h) (Keep.alloc wr _ _)
           have hne : (Value.slice va (bs.length + k) vc).ownBlock ≠ some nb := by
             rcases HL.out with h | ⟨x, h, hx⟩
             · rw [h]; exact hbn
             · rw [h]; intro e; cases e; omega
           have rS9 := k9.row HR.out (fun h => hne h)
           have c9 : w9.cell? ⟨nb, 16, none⟩ = some (.slice va (bs.length + k) vc) := cell_row rS9
           have z9 : w9.frozen? ⟨nb, 16, none⟩ = false := frozen_row rS9
           obtain ⟨oa, oc, rfl⟩ := ownsRow_slice hov9
           have ln9 : nb < w9.heap.size := row_lt rS9
           clear hnil9))
      generalize hV : w9.setCell ⟨nb, 16, none⟩ (.slice oa (bs.length + k + 1) oc) = WX
      have k10 : Keep w WX (fun b => b = nb ∨ bv.ownBlock = some b) := by
        rw [← hV]
        refine (k9.after (fun b hb h => ?_) HK.out).thenCell _ _ (fun _ => .inl rfl)
        rcases HL.out with h' | ⟨x, h', hx⟩
        · exact .inr (h' ▸ h)
        · rw [h'] at h; cases h; omega
      have hne2 : (Value.slice oa (bs.length + k + 1) oc).ownBlock ≠ some nb := by
        rcases hloc9 with h | h
        · rw [h]; exact hne
        · rw [h, World.size_alloc]; intro e; cases e; omega
      have hov10 := ownsRow_keep (Keep.setCell w9 ⟨nb, 16, none⟩ (.slice oa (bs.length + k + 1) oc) (· = nb) (fun _ => rfl)) hov9 (fun g hg h => hne2 (by rw [hg, h]))
      have rS10 := row_setCell (i := 16) (v := .slice oa (bs.length + k + 1) oc) rS9
      rw [hV] at hov10 rS10
      have hs := HK.out.size
      go_roundg (256 - (bs.length + k))
      case rel =>
        refine ⟨k + 1, _, .inl (by omega), ?_, rS10, k10, ?_, by omega, by omega⟩
        · rw [← ptr_snoc]; exact hov10
        · rcases hloc9 with h | h
          · rcases HL.out with h' | ⟨x, h', hx⟩
            · exact .inl (h.trans h')
            · exact .inr ⟨x, h.trans h', hx⟩
          · exact .inr ⟨_, h, by rw [World.size_alloc]; omega⟩
      case measure => omega
    · obtain ⟨n1, hn1⟩ : ∃ n1, n1 = bs.length + k := ⟨_, rfl⟩
      rw [← hn1] at hov c16 hr hat hle
      obtain ⟨g, rfl⟩ : ∃ g, va = some ⟨g, 0, none⟩ := by
        rcases hov.2 with ⟨_, e⟩ | ⟨g, cap, cur, e, _⟩
        · omega
        · injection e with e; exact ⟨g, e⟩
      obtain ⟨o, ho⟩ : ∃ o, (bs ++ List.replicate k none)[q]? = some o := by
        rw [List.getElem?_eq_getElem (by simp; omega)]; exact ⟨_, rfl⟩
      have cq : wr.cell? ⟨g, q, none⟩ = some (ptrV o) := by
        rw [hov.cellAt q (by omega), List.getElem?_map, ho]; rfl
      have fq := hov.frozenAt q
      have hgn : g ≠ nb := by
        intro e
        rcases hl with h | ⟨x, h, hx⟩
        · exact hbn (h.symm.trans (congrArg some e))
        · have h' : some g = some x := h
          injection h' with h'
          omega
      have hgl : g < wr.heap.size := (hov.lt g rfl).2
      have hsl := fun W b => slice256 W b r (by omega)
      have hqn : (q : Int) < n1 := by omega
      have c12 : wr.cell? ⟨nb, 12, none⟩ = some (.int .u64 f.len) := cell_row hr
      have f12 : wr.frozen? ⟨nb, 12, none⟩ = false := frozen_row hr
      have HR := Lib.hid hr
      have HK := Lib.hid hk
      have HL := Lib.hid hl
      have HOQ := Lib.hid ho
      clear hr hk hl ho
      have hso : g ≠ sb := by
        intro e
        rcases HL.out with h | ⟨x, h, hx⟩
        · exact hsb2 (h.symm.trans (congrArg some e))
        · have h' : some g = some x := h
          injection h' with h'
          omega
      have HQ := Lib.hid hkq
      have HOV := Lib.hid hov
      have hul : (u8s l).length = Nat.min dl (256 - r) := by have e : (u8s l).length = dl := by simp [u8s, hdl]
                                                             rw [e]; exact (Nat.min_eq_left (by omega)).symm
      have hu1 : ∀ v ∈ u8s l, v.oneCell' = true := by intro v hv; simp [u8s] at hv; obtain ⟨x, _, rfl⟩ := hv; rfl
      have hsrw : ∀ j v, (u8s l)[j]? = some v → wr.cell? ((⟨sb, so, none⟩ : Addr).add j) = some v := fun j v hv => by
        have h1 := HSR.out j v hv
        rw [addp] at h1 ⊢
        exact HK.out.cell h1 (fun h => h.elim hsb hsb2)
      have HSW := Lib.hid (And.intro hsrw (And.intro hul hu1))
      clear hkq hov hsrw hul hu1
      cases o with
      | none =>
        simp only [ptrV] at cq
        have hcp := run_copy_row Tryd.prog ((wr.setCell ⟨g, q, none⟩ (.pointer (some ⟨wr.heap.size, 0, none⟩))).alloc (.cells Tryd.zeroCells123 123)) 51 51 3 5 wr.heap.size r (256 - r) (256 - r) ⟨sb, so, none⟩ dl dc Tryd.zeroCells123 123 (u8s l) Tryd.underlying51 size5
          (row_iff.1 (row_alloc_at _ _ _ _ (by simp [World.setCell]))) HSW.out.2.1
          (fun j v hv => by
            have h1 := HSW.out.1 j v hv
            rw [addp] at h1 ⊢
            have hlt := World.block_lt_of_cell? wr ⟨sb, so + j, none⟩ h1
            rw [World.cell?_alloc_old _ _ _ (by have h' : sb < wr.heap.size := hlt
                                                simp [World.setCell]; omega), World.cell?_setCell_other _ _ _ _ (by simp)]
            exact h1)
          (by rw [zero256]; have := HSW.out.2.1; simp; rw [this]; exact Nat.le_trans (Nat.add_le_add_left (Nat.min_le_right _ _) r) (by omega)) HSW.out.2.2
        generalize hZ : ((Tryd.zeroCells123).toList.take r ++ u8s l ++ (Tryd.zeroCells123).toList.drop (r + (u8s l).length)).toArray = Z at hcp
        have HZ := Lib.hid hZ
        clear hZ
        go_wp2_with fail
        go_ret
        have hlt2 := row_lt HR.out
        have hnew : ∀ b, bs[q]? ≠ some (some b) := fun b hb => by
          rcases bs_at HOQ.out with h | ⟨h, _⟩
          · rw [hb] at h; cases h
          · rw [List.getElem?_eq_none h] at hb; cases hb
        have hs := HK.out.size
        refine ⟨rfl, .slice (some ⟨g, 0, none⟩) n1 vc, (bs ++ List.replicate k none).set q (some wr.heap.size), wr.heap.size, ?_⟩
        have hln : ((bs ++ List.replicate k none).set q (some wr.heap.size)).length = n1 := by simp [hn1]
        refine { nrow := ?_, brow := ?_, len := by rw [hln]; exact hle, ge := by rw [hln]; omega, at_q := ?_, off_q := fun j hj => bs_off bs k q j _ hj, bloc := ?_, dnew := .inr ⟨hnew, hs, by simp [World.setCell]⟩, drow := ?_, keep := ?_ }
        · rw [row_alloc_past _ _ _ (by simpa [World.setCell] using hlt2)]
          have := row_setCell (i := 12) (v := .int .u64 (max f.len (off + (dl : Int)))) ((row_setCell_ne wr ⟨g, q, none⟩ (.pointer (some ⟨wr.heap.size, 0, none⟩)) nb (Ne.symm hgn)).trans HR.out)
          rw [this, hdl]; rfl
        · have h1 := (HOV.out.stored q (.pointer (some ⟨wr.heap.size, 0, none⟩))).1
          rw [hln, List.map_set]
          exact (ownsRow_keep (Keep.setCell _ ⟨nb, 12, none⟩ (.int .u64 (max f.len (off + (dl : Int)))) (· = nb) (fun _ => rfl)) h1 (fun x hx => by cases hx; exact hgn)).alloc _
        · rw [List.getElem?_set_self (by simp; omega)]
        · rcases HL.out with h | ⟨x, h, hx⟩
          · exact .inl h
          · refine .inr ⟨x, h, hx, ?_, ?_⟩
            · have e : some g = some x := h
              injection e with e
              simp [World.setCell]; omega
            · have e : some g = some x := h
              injection e with e
              omega
        · rw [← dataCells_put d hq hr l (by omega), dataCells_zero (HW.out hnew)]
          have h2 : (u8s l).length = l.length := by simp [u8s]
          rw [← h2, HZ.out]
          exact row_alloc_at _ _ _ _ (by simp [World.setCell])
        · refine ((HK.out.mono (fun b _ h => ?_)).thenCell _ _ (fun hb => ?_)).thenCell _ _ (fun _ => .inl rfl) |>.thenAlloc _
          · exact h.elim .inl (fun h => .inr (.inl h))
          · rcases HL.out with h | ⟨x, h, hx⟩
            · exact .inr (.inl h.symm)
            · have e : some g = some x := h
              injection e with e
              exact absurd hb (by simp; omega)
      | some b =>
        simp only [ptrV] at cq
        have hbq : bs[q]? = some (some b) := by
          rcases bs_at HOQ.out with h | ⟨_, h⟩
          · exact h
          · cases h
        obtain ⟨ho1, ho2, ho3⟩ := HO.out b hbq
        have hbg : b ≠ g := by
          intro e
          rcases HL.out with h | ⟨x, h, hx⟩
          · exact ho3 (h.symm.trans (congrArg some e.symm))
          · have h' : some g = some x := h
            injection h' with h'
            have := row_lt ho1
            omega
        have rb : row wr b = some (dataCells d q, 123) := HK.out.row ho1 (fun h => h.elim ho2 ho3)
        have hbl := row_lt rb
        have hcp := run_copy_row Tryd.prog wr 51 51 3 5 b r (256 - r) (256 - r) ⟨sb, so, none⟩ dl dc (dataCells d q) 123 (u8s l) Tryd.underlying51 size5
          (row_iff.1 rb) HSW.out.2.1 HSW.out.1
          (by rw [dataCells_size]; have := HSW.out.2.1; rw [this]; exact Nat.le_trans (Nat.add_le_add_left (Nat.min_le_right _ _) r) (by omega)) HSW.out.2.2
        have HRB := Lib.hid rb
        have HO1 := Lib.hid ho1
        have HBQ := Lib.hid hbq
        clear ho1 rb hbq
        generalize hZ : ((dataCells d q).toList.take r ++ u8s l ++ (dataCells d q).toList.drop (r + (u8s l).length)).toArray = Z at hcp
        have HZ := Lib.hid hZ
        clear hZ
        have hbn2 : nb ≠ b := Ne.symm ho2
        go_wp2_with fail
        go_ret
        have hlt2 := row_lt HR.out
        have hs := HK.out.size
        refine ⟨rfl, .slice (some ⟨g, 0, none⟩) n1 vc, bs ++ List.replicate k none, b, ?_⟩
        have hln : (bs ++ List.replicate k none).length = n1 := by simp [hn1]
        have hset : (bs ++ List.replicate k none) = (bs ++ List.replicate k none).set q (some b) := by
          apply List.ext_getElem?
          intro j
          rw [List.getElem?_set]
          split
          · rename_i e; subst e; rw [HOQ.out, if_pos (by omega)]
          · rfl
        refine { nrow := ?_, brow := ?_, len := by rw [hln]; exact hle, ge := by rw [hln]; omega, at_q := HOQ.out, off_q := fun j hj => by rw [hset]; exact bs_off bs k q j _ hj, bloc := ?_, dnew := .inl HBQ.out, drow := ?_, keep := ?_ }
        · have := row_setCell (i := 12) (v := .int .u64 (max f.len (off + (dl : Int)))) ((row_setRow_ne wr b nb Z hbn2).trans HR.out)
          rw [this, hdl]; rfl
        · rw [hln]
          exact ownsRow_keep (Keep.setCell _ ⟨nb, 12, none⟩ (.int .u64 (max f.len (off + (dl : Int)))) (· = nb) (fun _ => rfl)) (ownsRow_keep (Keep.setRow wr b Z (· = b) (fun _ => rfl)) HOV.out (fun x hx => by cases hx; exact Ne.symm hbg)) (fun x hx => by cases hx; exact hgn)
        · rcases HL.out with h | ⟨x, h, hx⟩
          · exact .inl h
          · have e : some g = some x := h
            injection e with e
            exact .inr ⟨x, h, hx, by simp [World.setCell]; omega, by omega⟩
        · rw [← dataCells_put d hq hr l (by omega)]
          have h2 : (u8s l).length = l.length := by simp [u8s]
          rw [← h2, HZ.out, row_setCell_ne _ _ _ _ (Ne.symm hbn2), row_setRow_eq, HRB.out]; rfl
        · exact ((HK.out.mono (fun b _ h => h.elim .inl (fun h => .inr (.inl h)))).thenRow b Z (fun _ => .inr (.inr HBQ.out))).thenCell _ _ (fun _ => .inl rfl)
end Go.Proofs.YtfbcdhcgmncklaaDoor
