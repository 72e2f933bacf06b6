/- (*node).cut. -/
import Derived.Test.YtfbcdhcgmncklaaDoorCells
import Derived.Test.YtfbcdhcgmncklaaDoorOne
namespace Go.Proofs.YtfbcdhcgmncklaaDoor
open Go Go.RowKit Go.Nd Go.Maps Go.MuLone Go.RwLone
set_option maxRecDepth 100000

set_option maxHeartbeats 4000000 in
theorem cut_kind {w : World} {nb : Nat} {a : Int} {f : Inf} {kv bv : Value} {T : TypeId} (hn : row w nb = some (nodeC a f kv bv, T)) (len : Int) (h : isDir f.mode = true) :
    Calls Tryd.prog 44 #[.pointer (some ⟨nb, 0, none⟩), .int .u64 len] w fun e w' => e = .returned (.int .i64 81) ∧ w = w' := by
  have c5 : w.cell? ⟨nb, 5, none⟩ = some (.int .u32 f.mode) := cell_row hn
  clear hn
  have t : (bits .and .u32 f.mode 2147483648 != 0) = true := h
  clear h
  go_enter Tryd.func44, Tryd.ntmps44
  go_wp2_with fail
  go_ret
  exact ⟨rfl, rfl⟩

set_option maxHeartbeats 4000000 in
theorem cut_big {w : World} {nb : Nat} {a : Int} {f : Inf} {kv bv : Value} {T : TypeId} (hn : row w nb = some (nodeC a f kv bv, T)) {len : Int} (h : isDir f.mode = false) (h2 : 65536 < len) :
    Calls Tryd.prog 44 #[.pointer (some ⟨nb, 0, none⟩), .int .u64 len] w fun e w' => e = .returned (.int .i64 86) ∧ w = w' := by
  have c5 : w.cell? ⟨nb, 5, none⟩ = some (.int .u32 f.mode) := cell_row hn
  clear hn
  have t : (bits .and .u32 f.mode 2147483648 != 0) = false := h
  clear h
  go_enter Tryd.func44, Tryd.ntmps44
  go_wp2_with fail
  go_ret
  exact ⟨rfl, rfl⟩

structure CutOk (w w' : World) (nb : Nat) (a : Int) (f : Inf) (kv bv : Value) (T : TypeId) (len : Int) (q r : Nat) (bs : List (Option Nat)) (d : Nat → Int) (bv' : Value) : Prop where
  nrow : row w' nb = some (nodeC a { f with len := len } kv bv', T)
  brow : w'.ownsRow 0 122 1 bv' (bs.take (if 0 < r then q + 1 else q)).length ((bs.take (if 0 < r then q + 1 else q)).map ptrV)
  bloc : bv'.ownBlock = bv.ownBlock
  drow : ∀ b, 0 < r → bs[q]? = some (some b) → row w' b = some (dataCells (cutData d len.toNat) q, 123)
  keep : Keep w w' (fun b => b = nb ∨ bv.ownBlock = some b ∨ (0 < r ∧ bs[q]? = some (some b)))

theorem dataCells_cut (d : Nat → Int) {len : Int} {q r : Nat} (hq : len / 256 = q) (hr : len % 256 = r) :
    ((dataCells d q).toList.take r ++ List.replicate (256 - r) (Value.int .u8 0) ++ (dataCells d q).toList.drop (r + (256 - r))).toArray = dataCells (cutData d len.toNat) q := by
  have hr2 : r < 256 := by omega
  have ho : len.toNat = 256 * q + r := by omega
  rw [ho, show r + (256 - r) = 256 by omega]
  have hz : (dataCells d q).toList.drop 256 = [] := by apply List.drop_eq_nil_of_le; simp [dataCells]
  rw [hz, List.append_nil]
  unfold dataCells
  congr 1
  apply List.ext_getElem?
  intro j
  rw [List.getElem?_append]
  simp only [List.length_take, List.length_map, List.length_range, List.getElem?_take, List.getElem?_map, Nat.min_eq_left (Nat.le_of_lt hr2), List.getElem?_replicate]
  by_cases h1 : j < r
  · rw [if_pos h1, if_pos h1, List.getElem?_range (by omega)]
    simp only [Option.map_some, cutData]
    rw [if_pos (by omega)]
  · rw [if_neg h1]
    by_cases h2 : j < 256
    · rw [if_pos (by omega), List.getElem?_range h2]
      simp only [Option.map_some, cutData]
      rw [if_neg (by omega)]
    · rw [if_neg (by omega), List.getElem?_eq_none (by simp; omega)]; rfl

theorem slice256i (W : World) (b r : Nat) (hr : r < 256) : (Instr.sliceAt 123 (.pointer (some ⟨b, 0, none⟩)) (some (.int .i64 r)) none none).run Tryd.prog W = .ok (.slice (some ⟨b, r, none⟩) (256 - r) (256 - r)) W := by
  rw [run_sliceAt_array_l W _ _ ar256 .i64 r (by omega) (by rw [al256]; omega), el256, Tryd.sizeOf5, al256]
  have : 256 ≠ r := by omega
  simp only [Result.andThen, slicedAt, Addr.add, Int.toNat_natCast, if_neg this]
  by_cases h0 : r = 0
  · subst h0; rfl
  · simp [h0]
theorem zeroU8 (w : World) : (zeroValue 5).run Tryd.prog w = .ok (.int .u8 0) w := Tryd.zeroValue5 w
theorem zeroPB (w : World) : (zeroValue 122).run Tryd.prog w = .ok (.pointer none) w := Tryd.zeroValue122 w

theorem cut_end {W1 : World} {nb g n vc k : Nat} {a : Int} {f : Inf} {kv : Value} {T : TypeId} {cur : Array Value} {bs : List (Option Nat)} (h1 : row W1 nb = some (nodeC a f kv (.slice (some ⟨g, 0, none⟩) n vc), T))
    (h2 : row W1 g = some (cur, 122)) (hcs : cur.size = vc) (hnc : n ≤ vc) (hcm : vc ≤ maxLen) (hct : cur.toList.take n = bs.map ptrV) (hk : k ≤ n) (hgn : g ≠ nb) (hl : n = bs.length) {Y : Array Value}
    (hY : (cur.toList.take k ++ List.replicate (n - k) (Value.pointer none) ++ cur.toList.drop (k + (n - k))).toArray = Y) (len : Int) :
    row (((W1.setRow g Y).setCell ⟨nb, 16, none⟩ (.slice (some ⟨g, 0, none⟩) k vc)).setCell ⟨nb, 12, none⟩ (.int .u64 len)) nb = some (nodeC a { f with len := len } kv (.slice (some ⟨g, 0, none⟩) k vc), T) ∧
    (((W1.setRow g Y).setCell ⟨nb, 16, none⟩ (.slice (some ⟨g, 0, none⟩) k vc)).setCell ⟨nb, 12, none⟩ (.int .u64 len)).ownsRow 0 122 1 (.slice (some ⟨g, 0, none⟩) k vc) (bs.take k).length ((bs.take k).map ptrV) ∧
    Keep W1 (((W1.setRow g Y).setCell ⟨nb, 16, none⟩ (.slice (some ⟨g, 0, none⟩) k vc)).setCell ⟨nb, 12, none⟩ (.int .u64 len)) (fun b => b = nb ∨ b = g) := by
  have hYs : Y.size = vc := by rw [← hY]; simp; omega
  have hYt : Y.toList.take k = (bs.take k).map ptrV := by
    rw [← hY, List.map_take, ← hct, List.take_take, Nat.min_eq_left hk]
    simp only
    rw [List.append_assoc, List.take_append_of_le_length (by simp; omega), List.take_take, Nat.min_self]
  have hlen : (bs.take k).length = k := by rw [List.length_take]; omega
  refine ⟨?_, ?_, ((Keep.setRow W1 g Y _ (fun _ => .inr rfl)).thenCell _ _ (fun _ => .inl rfl)).thenCell _ _ (fun _ => .inl rfl)⟩
  · have e := row_setCell (i := 12) (v := .int .u64 len) (row_setCell (i := 16) (v := .slice (some ⟨g, 0, none⟩) k vc) ((row_setRow_ne W1 g nb Y (Ne.symm hgn)).trans h1))
    rw [e]; rfl
  · rw [hlen, ← hYt]
    refine ownsRow_of ?_ hYs (by omega) hcm (Nat.zero_le _)
    rw [row_setCell_ne _ _ _ _ hgn, row_setCell_ne _ _ _ _ hgn, row_setRow_eq, h2]; rfl
theorem cut_same {W1 : World} {nb k n : Nat} {a : Int} {f : Inf} {kv bv : Value} {T : TypeId} {bs : List (Option Nat)} (h1 : row W1 nb = some (nodeC a f kv bv, T)) (h2 : W1.ownsRow 0 122 1 bv n (bs.map ptrV)) (hl : n = bs.length) (hbn : bv.ownBlock ≠ some nb) (hk : n ≤ k) (len : Int) :
    row (W1.setCell ⟨nb, 12, none⟩ (.int .u64 len)) nb = some (nodeC a { f with len := len } kv bv, T) ∧
    (W1.setCell ⟨nb, 12, none⟩ (.int .u64 len)).ownsRow 0 122 1 bv (bs.take k).length ((bs.take k).map ptrV) ∧ Keep W1 (W1.setCell ⟨nb, 12, none⟩ (.int .u64 len)) (fun b => b = nb) := by
  have kk := Keep.setCell W1 ⟨nb, 12, none⟩ (.int .u64 len) (fun b => b = nb) (fun _ => rfl)
  refine ⟨?_, ?_, kk⟩
  · rw [row_setCell h1]; rfl
  · subst hl
    rw [List.take_of_length_le hk]
    exact ownsRow_keep kk h2 (fun g hg h => hbn (by rw [hg, h]))

set_option maxHeartbeats 4000000 in
theorem cut_ok {w : World} {nb : Nat} {a : Int} {f : Inf} {kv bv : Value} {T : TypeId} (hn : row w nb = some (nodeC a f kv bv, T)) {len : Int} (l0 : 0 ≤ len) (l1 : len ≤ 65536) {q r : Nat} (hq : len / 256 = q) (hr : len % 256 = r)
    {bs : List (Option Nat)} (hbs : bs.length ≤ 256) (hbr : w.ownsRow 0 122 1 bv bs.length (bs.map ptrV)) (hbn : bv.ownBlock ≠ some nb) {d : Nat → Int}
    (hold : ∀ b, bs[q]? = some (some b) → row w b = some (dataCells d q, 123) ∧ b ≠ nb ∧ bv.ownBlock ≠ some b) (h : isDir f.mode = false) :
    Calls Tryd.prog 44 #[.pointer (some ⟨nb, 0, none⟩), .int .u64 len] w fun e w' => e = .returned (.int .i64 0) ∧ ∃ bv', CutOk w w' nb a f kv bv T len q r bs d bv' := by
  have hnl := row_lt hn
  have t : (bits .and .u32 f.mode 2147483648 != 0) = false := h
  clear h
  obtain ⟨va, vc, rfl⟩ := ownsRow_slice hbr
  obtain ⟨n, hln⟩ : ∃ n, n = bs.length := ⟨_, rfl⟩
  rw [← hln] at hbr hbs hbn hold hn ⊢
  have c5 : w.cell? ⟨nb, 5, none⟩ = some (.int .u32 f.mode) := cell_row hn
  have c16 : w.cell? ⟨nb, 16, none⟩ = some (.slice va n vc) := cell_row hn
  have c12 : w.cell? ⟨nb, 12, none⟩ = some (.int .u64 f.len) := cell_row hn
  have f12 : w.frozen? ⟨nb, 12, none⟩ = false := frozen_row hn
  have f16 : w.frozen? ⟨nb, 16, none⟩ = false := frozen_row hn
  have HN := Lib.hid hn
  have HB := Lib.hid hbr
  have HO := Lib.hid hold
  have HL := Lib.hid hln
  have HQ := Lib.hid (And.intro hq hr)
  have hq' : IntKind.i64.wrap (len / 256) = q := by rw [hq]; exact IntWalk.i64_in _ (by omega)
  have hr' : IntKind.i64.wrap (len % 256) = r := by rw [hr]; exact IntWalk.i64_in _ (by omega)
  have hr2 : r < 256 := by omega
  clear hn hbr hold hln
  by_cases hqn : q < n
  · obtain ⟨g, rfl⟩ : ∃ g, va = some ⟨g, 0, none⟩ := by
      rcases HB.out.2 with ⟨_, e⟩ | ⟨g, cap, cur, e, _⟩
      · omega
      · injection e with e; exact ⟨g, e⟩
    obtain ⟨cur, rg, hcs, hnc, hcm, hct, _⟩ := ownsRow_row HB.out
    have hgn : g ≠ nb := fun e => hbn (by rw [e]; rfl)
    have hng : nb ≠ g := Ne.symm hgn
    have hqn3 : (q : Int) < n := by omega
    have hqc : ¬ vc = q := by omega
    by_cases hr0 : 0 < r
    · obtain ⟨o, ho⟩ : ∃ o, bs[q]? = some o := by
        rw [List.getElem?_eq_getElem (by have := HL.out; omega)]; exact ⟨_, rfl⟩
      have cq : w.cell? ⟨g, q, none⟩ = some (ptrV o) := by
        rw [HB.out.cellAt q (by omega), List.getElem?_map, ho]; rfl
      have hif : (if 0 < r then q + 1 else q) = q + 1 := if_pos hr0
      have HIF := Lib.hid hif
      have HOQ := Lib.hid ho
      clear hif ho
      cases o with
      | none =>
        simp only [ptrV] at cq
        by_cases hq1 : q + 1 < n
        · have hcl := run_clear_row (P := Tryd.prog) w Tryd.underlying90 zeroPB rfl rfl rg (q + 1) (n - (q + 1)) (vc - (q + 1)) (by omega) (by omega)
          generalize hY : (cur.toList.take (q + 1) ++ List.replicate (n - (q + 1)) (Value.pointer none) ++ cur.toList.drop (q + 1 + (n - (q + 1)))).toArray = Y at hcl
          have HY := Lib.hid hY
          have HG := Lib.hid rg
          have HC := Lib.hid (And.intro hcs (And.intro hnc (And.intro hcm hct)))
          have hqc2 : ¬ vc = q + 1 := by omega
          have hq1' : ((q : Int) + 1) < n := by omega
          clear hY rg hcs hct
          go_enter Tryd.func44, Tryd.ntmps44
          go_wp2_with fail
          go_ret
          obtain ⟨e1, e2, e3⟩ := cut_end HN.out HG.out HC.out.1 HC.out.2.1 HC.out.2.2.1 HC.out.2.2.2 (Nat.le_of_lt hq1) hgn HL.out HY.out len
          exact ⟨rfl, _, e1, by rw [HIF.out]; exact e2, rfl, (fun b _ hb => by rw [HOQ.out] at hb; cases hb), e3.mono (fun b _ h => h.elim .inl (fun h => .inr (.inl (by rw [h]; rfl))))⟩
        · have hq1' : decide (((q : Int) + 1) < n) = false := by rw [decide_eq_false_iff_not]; omega
          have HC := Lib.hid (And.intro hcs (And.intro hnc (And.intro hcm hct)))
          clear rg hcs hct
          go_enter Tryd.func44, Tryd.ntmps44
          go_wp2_with fail
          go_ret
          obtain ⟨e1, e2, e3⟩ := cut_same (k := q + 1) HN.out HB.out HL.out hbn (by omega) len
          exact ⟨rfl, _, e1, by rw [HIF.out]; exact e2, rfl, (fun b _ hb => by rw [HOQ.out] at hb; cases hb), e3.mono (fun _ _ h => .inl h)⟩
      | some b =>
        simp only [ptrV] at cq
        obtain ⟨rb, hbn1, hbv⟩ := HO.out b HOQ.out
        have hnb2 : nb ≠ b := Ne.symm hbn1
        have hgb : g ≠ b := fun e => hbv (by rw [← e]; rfl)
        have hbg : b ≠ g := Ne.symm hgb
        have hsl := fun W => slice256i W b r hr2
        have hcl0 := run_clear_row (P := Tryd.prog) w Tryd.underlying51 zeroU8 rfl rfl rb r (256 - r) (256 - r) (by omega) (by rw [dataCells_size]; omega)
        rw [dataCells_cut d HQ.out.1 HQ.out.2] at hcl0
        generalize hZ : dataCells (cutData d len.toNat) q = Z at hcl0
        have HZ := Lib.hid hZ
        have rg1 : row (w.setRow b Z) g = some (cur, 122) := (row_setRow_ne w b g Z hgb).trans rg
        have rn1 : row (w.setRow b Z) nb = some (nodeC a f kv (.slice (some ⟨g, 0, none⟩) n vc), T) := (row_setRow_ne w b nb Z hnb2).trans HN.out
        have rb1 : row (w.setRow b Z) b = some (Z, 123) := by rw [row_setRow_eq, rb]; rfl
        have kb1 : Keep w (w.setRow b Z) (· = b) := Keep.setRow w b Z _ (fun _ => rfl)
        have HW1 := Lib.hid (And.intro rg1 (And.intro rn1 (And.intro rb1 kb1)))
        have HBX := Lib.hid rb
        clear hZ rb rg rn1 rb1 kb1
        by_cases hq1 : q + 1 < n
        · have hcl := run_clear_row (P := Tryd.prog) (w.setRow b Z) Tryd.underlying90 zeroPB rfl rfl rg1 (q + 1) (n - (q + 1)) (vc - (q + 1)) (by omega) (by omega)
          generalize hY : (cur.toList.take (q + 1) ++ List.replicate (n - (q + 1)) (Value.pointer none) ++ cur.toList.drop (q + 1 + (n - (q + 1)))).toArray = Y at hcl
          have HY := Lib.hid hY
          have HC := Lib.hid (And.intro hcs (And.intro hnc (And.intro hcm hct)))
          have hqc2 : ¬ vc = q + 1 := by omega
          have hq1' : ((q : Int) + 1) < n := by omega
          clear hY rg1 hcs hct
          go_enter Tryd.func44, Tryd.ntmps44
          go_wp2_with fail
          go_ret
          obtain ⟨e1, e2, e3⟩ := cut_end HW1.out.2.1 HW1.out.1 HC.out.1 HC.out.2.1 HC.out.2.2.1 HC.out.2.2.2 (Nat.le_of_lt hq1) hgn HL.out HY.out len
          refine ⟨rfl, _, e1, by rw [HIF.out]; exact e2, rfl, (fun b' _ hb => ?_), ?_⟩
          · rw [HOQ.out] at hb
            cases hb
            rw [HZ.out]
            exact e3.row HW1.out.2.2.1 (fun h => h.elim (fun h => hbn1 h) (fun h => hbg h))
          · refine (HW1.out.2.2.2.mono (fun b' _ h => ?_)).trans e3 (fun b' _ h => h.elim .inl (fun h => .inr (.inl (by rw [h]; rfl))))
            have h' : b' = b := h
            exact .inr (.inr ⟨hr0, by rw [h', HOQ.out]⟩)
        · have hq1' : decide (((q : Int) + 1) < n) = false := by rw [decide_eq_false_iff_not]; omega
          have HC := Lib.hid (And.intro hcs (And.intro hnc (And.intro hcm hct)))
          clear rg1 hcs hct
          go_enter Tryd.func44, Tryd.ntmps44
          go_wp2_with fail
          go_ret
          have hov1 := ownsRow_keep HW1.out.2.2.2 HB.out (fun x hx h => hbv (by rw [hx, h]))
          obtain ⟨e1, e2, e3⟩ := cut_same (k := q + 1) HW1.out.2.1 hov1 HL.out hbn (by omega) len
          refine ⟨rfl, _, e1, by rw [HIF.out]; exact e2, rfl, (fun b' _ hb => ?_), ?_⟩
          · rw [HOQ.out] at hb
            cases hb
            rw [HZ.out]
            exact e3.row HW1.out.2.2.1 (fun h => hbn1 h)
          · refine (HW1.out.2.2.2.mono (fun b' _ h => ?_)).trans e3 (fun b' _ h => .inl h)
            have h' : b' = b := h
            exact .inr (.inr ⟨hr0, by rw [h', HOQ.out]⟩)
    · have hr00 : r = 0 := by omega
      subst hr00
      have hcl := run_clear_row (P := Tryd.prog) w Tryd.underlying90 zeroPB rfl rfl rg q (n - q) (vc - q) (by omega) (by omega)
      generalize hY : (cur.toList.take q ++ List.replicate (n - q) (Value.pointer none) ++ cur.toList.drop (q + (n - q))).toArray = Y at hcl
      have HY := Lib.hid hY
      have HG := Lib.hid rg
      have HC := Lib.hid (And.intro hcs (And.intro hnc (And.intro hcm hct)))
      clear hY rg hcs hct
      go_enter Tryd.func44, Tryd.ntmps44
      go_wp2_with fail
      go_ret
      obtain ⟨e1, e2, e3⟩ := cut_end HN.out HG.out HC.out.1 HC.out.2.1 HC.out.2.2.1 HC.out.2.2.2 (Nat.le_of_lt hqn) hgn HL.out HY.out len
      exact ⟨rfl, _, e1, e2, rfl, fun b h => absurd h (Nat.lt_irrefl _), e3.mono (fun b _ h => h.elim .inl (fun h => .inr (.inl (by rw [h]; rfl))))⟩
  · have hqn2 : decide ((q : Int) < n) = false := by rw [decide_eq_false_iff_not]; omega
    by_cases hr0 : 0 < r
    all_goals
      go_enter Tryd.func44, Tryd.ntmps44
      go_wp2_with fail
      go_ret
      obtain ⟨e1, e2, e3⟩ := cut_same (k := if 0 < r then q + 1 else q) HN.out HB.out HL.out hbn (by split <;> omega) len
      exact ⟨rfl, .slice va n vc, e1, e2, rfl, (fun b _ hb => by rw [List.getElem?_eq_none (by have := HL.out; omega)] at hb; cases hb), e3.mono (fun _ _ h => .inl h)⟩
end Go.Proofs.YtfbcdhcgmncklaaDoor
