/- (*node).read. -/
import Derived.Test.YtfbcdhcgmncklaaDoorPutS
import Derived.BigQuiet
import Derived.Laws.MakeOwn
import Derived.Laws.OwnMore
import Derived.Deep.LoopGhost
import Derived.Deep.Cut
import Derived.StillTailTactics
import Derived.Deep.RegionHeld3
namespace Go.Proofs.YtfbcdhcgmncklaaDoor
open Go Go.RowKit Go.Nd Go.Maps Go.MuLone Go.RwLone
set_option maxRecDepth 100000

/-- A list of bytes that came out: nil, or a new block's cells. -/
def ListAt (w w' : World) (dv : Value) (l : List Int) : Prop :=
  (dv = .slice none 0 0 ∧ l = []) ∨ ∃ g, dv = .slice (some ⟨g, 0, none⟩) l.length l.length ∧ w.heap.size ≤ g ∧ row w' g = some ((u8s l).toArray, 5)
/-- The cells of a list of which the first k bytes are read. -/
def rdCells (d : Nat → Int) (off n k : Nat) : List Value := (List.range n).map (fun i => Value.int .u8 (if i < k then d (off + i) else 0))

set_option maxHeartbeats 4000000 in
theorem read_nil {w : World} {nb : Nat} {a : Int} {f : Inf} {kv bv : Value} {T : TypeId} (hn : row w nb = some (nodeC a f kv bv, T)) (off n : Int) (h : n ≤ 0 ∨ f.len ≤ off) :
    Calls Tryd.prog 47 #[.pointer (some ⟨nb, 0, none⟩), .int .u64 off, .int .i64 n] w fun r w' => r = .returned (.slice none 0 0) ∧ w = w' := by
  have hnl := row_lt hn
  have c12 : w.cell? ⟨nb, 12, none⟩ = some (.int .u64 f.len) := cell_row hn
  clear hn
  by_cases h1 : n ≤ 0
  · go_enter Tryd.func47, Tryd.ntmps47
    go_wp2_with fail
    go_ret
    exact ⟨rfl, rfl⟩
  · have h2 := h.resolve_left h1
    go_enter Tryd.func47, Tryd.ntmps47
    go_wp2_with fail
    go_ret
    exact ⟨rfl, rfl⟩

theorem upon_value {P : Program} {o : Oper} {a : Act} {K : Act → World → Prop} {Q : Exit → Act → World → Prop} {S : Sem Value} {w w1 : World} {v : Value} (h : S.run P w = .ok v w1) (hK : K (a.put o.dst v) w1) :
    o.upon P a K Q ((Sem.run P S w).andThen fun a w' => Result.ok (Next.value a) w') := by
  rw [h]
  exact hK
theorem rd_skip {d : Nat → Int} {off m k st : Nat} (h : ∀ i, k ≤ i → i < k + st → d (off + i) = 0) : rdCells d off m (k + st) = rdCells d off m k := by
  unfold rdCells
  apply List.map_congr_left
  intro i _
  by_cases h1 : i < k
  · rw [if_pos h1, if_pos (by omega)]
  · rw [if_neg h1]
    split
    · rw [h i (by omega) (by omega)]
    · rfl
theorem rd_len (d : Nat → Int) (off m k : Nat) : (rdCells d off m k).length = m := by simp [rdCells]
/-- A piece of a block's cells. -/
def piece (d : Nat → Int) (a st : Nat) : List Value := (List.range st).map (fun j => Value.int .u8 (d (a + j)))
theorem rd_copy {d : Nat → Int} {off m k st a : Nat} (ha : off + k = a) (hst : k + st ≤ m) : (rdCells d off m k).take k ++ piece d a st ++ (rdCells d off m k).drop (k + (piece d a st).length) = rdCells d off m (k + st) := by
  have hl : (piece d a st).length = st := by simp [piece]
  have hl2 := rd_len d off m k
  rw [hl]
  apply List.ext_getElem?
  intro j
  rw [List.append_assoc, List.getElem?_append, List.getElem?_append, List.length_take, hl2, hl, Nat.min_eq_left (by omega), List.getElem?_take, List.getElem?_drop]
  simp only [rdCells, piece, List.getElem?_map]
  by_cases h1 : j < k
  · rw [if_pos h1, if_pos h1, List.getElem?_range (by omega)]
    simp only [Option.map_some]
    rw [if_pos h1, if_pos (by omega)]
  · rw [if_neg h1]
    by_cases h2 : j - k < st
    · rw [if_pos h2, List.getElem?_range h2, List.getElem?_range (by omega)]
      simp only [Option.map_some]
      rw [if_pos (by omega)]
      have : a + (j - k) = off + j := by omega
      rw [this]
    · rw [if_neg h2]
      have e : k + st + (j - k - st) = j := by omega
      rw [e]
      by_cases h3 : j < m
      · rw [List.getElem?_range h3]
        simp only [Option.map_some]
        rw [if_neg h1, if_neg (by omega)]
      · rw [List.getElem?_eq_none (by simp; omega)]; rfl
theorem info5 : (Tryd.prog.info? 5).map (fun i => (i.zero, i.size, i.bytes)) = some (some (.int .u8 0), 1, 1) := by kernel_rfl
theorem rd_zero (d : Nat → Int) (off m : Nat) : madeCells #[Value.int .u8 0] m = (rdCells d off m 0).toArray := by
  have h1 := toList_madeCells_one (Value.int .u8 0) m
  have h2 : rdCells d off m 0 = List.replicate m (Value.int .u8 0) := by
    unfold rdCells
    rw [List.eq_replicate_iff]
    exact ⟨by simp, fun b hb => by
      obtain ⟨i, _, rfl⟩ := List.mem_map.1 hb
      simp⟩
  rw [h2, ← h1]
theorem mk_u8 (W : World) (d : Nat → Int) (off m : Nat) (hm : m ≤ 65536) : (Instr.makeSlice 51 (.int .u64 m) (.int .u64 m)).run Tryd.prog W = .ok (.slice (some ⟨W.heap.size, 0, none⟩) m m) (W.alloc (.cells (rdCells d off m 0).toArray 5)) := by
  obtain ⟨i0, hi, hz0, hz1, hz2⟩ := info_parts info5
  rw [run_makeSlice W 51 5 i0 (.int .u8 0) Tryd.underlying51 hi hz0 .u64 .u64 m m (by omega) (by omega) (by rw [hz1]; omega) (by rw [hz2]; omega) (by omega), hz1]
  simp only [Int.toNat_natCast, Nat.mul_one]
  rw [← rd_zero]; rfl

set_option maxHeartbeats 4000000 in
theorem read_some {w : World} {own : Own} {nb : Nat} {a : Int} {e : Ent} {kv bv : Value} {bs : List (Option Nat)} {T : TypeId} (hn : row w nb = some (nodeC a e.inf kv bv, T)) (hb : BytesRep w own e bv bs) (he : EntOk e) {off m : Nat} {n : Int} (o1 : (off : Int) < e.inf.len) (n0 : 0 < n) (n1 : n < 9223372036854775808) (hm : (m : Int) = min n (e.inf.len - off)) :
    Calls Tryd.prog 47 #[.pointer (some ⟨nb, 0, none⟩), .int .u64 off, .int .i64 n] w fun r w' => ∃ dv, r = .returned dv ∧ Keep w w' (fun _ => False) ∧ ListAt w w' dv (e.read off n) := by
  have hnl := row_lt hn
  have c12 : w.cell? ⟨nb, 12, none⟩ = some (.int .u64 e.inf.len) := cell_row hn
  have hl1 := he.len1
  obtain ⟨va, vc, rfl⟩ := ownsRow_slice hb.brow
  have hm65 : m ≤ 65536 := by have := he.len0; omega
  have hm1 : 0 < m := by omega
  have hmo : (off : Int) + m ≤ e.inf.len := by omega
  have hmk := mk_u8 w e.data off m hm65
  rw [hm] at hmk
  have HM := Lib.hid hm
  clear hm
  have HN := Lib.hid hn
  have HB := Lib.hid hb
  have HE := Lib.hid he
  clear hn hb he
  go_enter Tryd.func47, Tryd.ntmps47
  go_wp2_with fail
  go_loopg [8, 9, 10, 11, 12] m (fun gk v8 _ _ _ _ wr => ∃ got : Nat, v8 = .int .i64 got ∧ gk + got = m ∧ row wr w.heap.size = some ((rdCells e.data off m got).toArray, 5) ∧ Keep w wr (fun _ => False))
  case atStart => exact ⟨0, rfl, by omega, row_alloc_at _ _ _ _ rfl, Keep.alloc _ _ _⟩
  case round =>
    obtain ⟨got, rfl, hgk, hrow, hk⟩ := hrel
    by_cases hlt : got < m
    · obtain ⟨q, hq⟩ : ∃ q : Nat, ((off : Int) + got) / 256 = q := ⟨(off + got) / 256, by omega⟩
      obtain ⟨r, hr⟩ : ∃ r : Nat, ((off : Int) + got) % 256 = r := ⟨(off + got) % 256, by omega⟩
      obtain ⟨st, hst⟩ : ∃ st : Nat, min ((m : Int) - got) (256 - (r : Int)) = st := ⟨min (m - got) (256 - r), by omega⟩
      have hoff : off + got = 256 * q + r := by omega
      have hr256 : r < 256 := by omega
      have hst1 : 0 < st := by omega
      have hst2 : got + st ≤ m := by omega
      have hst3 : st ≤ 256 - r := by omega
      have HST := Lib.hid hst
      have HROW := Lib.hid hrow
      have HK := Lib.hid hk
      have c16 : wr.cell? ⟨nb, 16, none⟩ = some (.slice va bs.length vc) := hk.cell (cell_row HN.out) (fun h => h)
      have hnl2 : nb < wr.heap.size := Nat.lt_of_lt_of_le hnl hk.size
      have hltz : (got : Int) < m := by omega
      clear hst hrow hk
      go_upto_region 9 with fail
      rw [HST.out]
      by_cases hqn : q < bs.length
      · have hqz : (q : Int) < bs.length := by omega
        obtain ⟨g, rfl⟩ : ∃ g, va = some ⟨g, 0, none⟩ := by
          rcases HB.out.brow.2 with ⟨_, e⟩ | ⟨g, cap, cur, e, _⟩
          · omega
          · injection e with e; exact ⟨g, e⟩
        have hov := ownsRow_keep HK.out HB.out.brow (fun _ _ h => h)
        obtain ⟨o, ho⟩ : ∃ o, bs[q]? = some o := ⟨_, List.getElem?_eq_getElem hqn⟩
        have cq : wr.cell? ⟨g, q, none⟩ = some (ptrV o) := by
          rw [hov.cellAt q (by omega), List.getElem?_map, ho]; rfl
        have HO := Lib.hid ho
        clear hov ho
        cases o with
        | none =>
          simp only [ptrV] at cq
          go_wp2_with fail
          go_roundg (m - (got + st))
          case rel =>
            refine ⟨got + st, by simp, by omega, ?_, HK.out⟩
            rw [rd_skip (fun i h1 h2 => ?_)]
            · exact HROW.out
            · have := HB.out.bnone q HO.out (r + (i - got)) (by omega)
              rw [show off + i = 256 * q + (r + (i - got)) by omega]; exact this
          case measure => omega
        | some b =>
          simp only [ptrV] at cq
          have hsl := fun W b => slice256 W b r hr256
          have hgz : ((got : Int) + st) ≤ m := by omega
          have hgz0 : (0 : Int) ≤ got := by omega
          have hgz1 : (got : Int) ≤ got + st := by omega
          have hgz2 : IntKind.i64.wrap ((got : Int) + st) = got + st := (by rw [IntKind.wrap_i64]; omega)
          have hgz3 : (0 : Int) ≤ r := by omega
          have hgz4 : (r : Int) ≤ 256 := by omega
          have hal := al256
          have hn1 : nb ≠ w.heap.size := by omega
          have hg1 : g ≠ w.heap.size := by
            have := (HB.out.brow.lt g rfl).2
            omega
          have HGE := Lib.hid (show ((got : Int) + st).toNat - got = st by omega)
          go_wp2_with fail
          have rbk : row wr b = some (dataCells e.data q, 123) := HK.out.row (HB.out.bsome q b HO.out).2 (fun h => h)
          have hpl : (piece e.data (256 * q + r) st).length = st := by simp [piece]
          have hcp := run_copy_row Tryd.prog wr.drew 51 51 3 5 w.heap.size got st (m - got) ⟨b, r, none⟩ (256 - r) (256 - r) (rdCells e.data off m got).toArray 5 (piece e.data (256 * q + r) st) Tryd.underlying51 size5
            (row_iff.1 ((row_drew _ _).trans HROW.out)) (by rw [hpl]; exact (Nat.min_eq_right hst3).symm)
            (fun j v hv => by
              have hj : j < st := by rw [← hpl]; exact (List.getElem?_eq_some_iff.1 hv).1
              have hv2 : v = .int .u8 (e.data (256 * q + (r + j))) := by
                unfold piece at hv
                rw [List.getElem?_map, List.getElem?_range hj] at hv
                injection hv with hv
                rw [← hv, ← Nat.add_assoc]
              rw [addp, hv2]
              rw [cell_row (c := dataCells e.data q) (T := 123) ((row_drew _ _).trans rbk)]
              unfold dataCells
              rw [List.getElem?_toArray, List.getElem?_map, List.getElem?_range (by omega)]; rfl)
            (by rw [hpl]; simp [rd_len]; omega) (by
              intro v hv
              obtain ⟨x, _, rfl⟩ := List.mem_map.1 hv
              rfl)
          rw [hpl, show ((rdCells e.data off m got).toArray.toList.take got ++ piece e.data (256 * q + r) st ++ (rdCells e.data off m got).toArray.toList.drop (got + st)).toArray = (rdCells e.data off m (got + st)).toArray by
            have := rd_copy (d := e.data) (off := off) (m := m) (k := got) (st := st) hoff hst2
            rw [hpl] at this
            rw [← this]] at hcp
          have HRB := Lib.hid rbk
          clear rbk
          have HS12 := Lib.hid (And.intro ((cell_setRow_ne wr w.heap.size nb 16 (rdCells e.data off m (got + st)).toArray hn1).trans c16) ((cell_setRow_ne wr w.heap.size g q (rdCells e.data off m (got + st)).toArray hg1).trans cq))
          go_region_held3 (fun w' => w'.cell? ⟨nb, 16, none⟩ = some (.slice (some ⟨g, 0, none⟩) bs.length vc) ∧ w'.cell? ⟨g, q, none⟩ = some (.pointer (some ⟨b, 0, none⟩))) (first | exact HS12.out | go_keep) (first | (refine upon_value hcp ?_) | (rw [HGE.out]; refine upon_value hcp ?_))
          go_wp2_with fail
          go_roundg (m - (got + st))
          case rel =>
            refine ⟨got + st, by simp, by omega, ?_, ?_⟩
            · rw [row_drew, row_setRow_eq, HROW.out]; rfl
            · exact (HK.out.thenRow _ _ (fun h => absurd h (Nat.lt_irrefl _))).thenDrew
          case measure => omega
      · have hqz : ¬ (q : Int) < bs.length := by omega
        go_wp2_with fail
        go_roundg (m - (got + st))
        case rel =>
          refine ⟨got + st, by simp, by omega, ?_, HK.out⟩
          rw [rd_skip (fun i h1 h2 => ?_)]
          · exact HROW.out
          · exact HB.out.bbey _ (by omega)
        case measure => omega
    · have hmg : got = m := by omega
      subst hmg
      have HROW := Lib.hid hrow
      have HK := Lib.hid hk
      clear hrow hk
      go_wp2_with fail
      go_ret
      have hread : e.read off n = (List.range got).map (fun i => e.data (off + i)) := by
        unfold Ent.read
        rw [if_neg (by omega), ← HM.out]; simp
      have hcell : (rdCells e.data off got got) = u8s (e.read off n) := by
        rw [hread]
        unfold rdCells u8s
        rw [List.map_map]
        apply List.map_congr_left
        intro i hi
        rw [List.mem_range] at hi
        simp [hi]
      have hlen : (e.read off n).length = got := by rw [hread]; simp
      refine ⟨_, rfl, HK.out, .inr ⟨w.heap.size, ?_, Nat.le_refl _, ?_⟩⟩
      · rw [hlen]; rfl
      · rw [← hcell]; exact HROW.out
end Go.Proofs.YtfbcdhcgmncklaaDoor
