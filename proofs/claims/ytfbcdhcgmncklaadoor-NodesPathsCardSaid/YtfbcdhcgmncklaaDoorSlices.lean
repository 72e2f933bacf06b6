/- slices.BinarySearch, slices.Delete at []uint64; without, above. -/
import Derived.Test.YtfbcdhcgmncklaaDoorCells
import Derived.Deep.RegionLaw
import Derived.WalkLawsBesides
namespace Go.Proofs.YtfbcdhcgmncklaaDoor
open Go Go.RowKit Go.Nd Go.Maps
set_option maxRecDepth 100000

theorem infoU : (Tryd.prog.info? 30).map (fun i => (i.zero, i.size, i.bytes)) = some (some (.int .u64 0), 1, 8) := by kernel_rfl

set_option maxHeartbeats 1000000 in
theorem less_any (x y : Int) (w : World) : Calls Tryd.prog 86 #[.int .u64 x, .int .u64 y] w fun e w' => e = .returned (.bool (decide (x < y))) ∧ w = w' := by
  by_cases h : x < y
  · have hd : decide (x < y) = true := decide_eq_true h
    go_enter Tryd.func86, Tryd.ntmps86
    go_wp2
    go_ret
    first | exact ⟨rfl, rfl⟩ | exact ⟨by rw [hd]; rfl, rfl⟩
  · have hd : decide (x < y) = false := decide_eq_false h
    go_enter Tryd.func86, Tryd.ntmps86
    go_wp2
    go_ret
    first | exact ⟨rfl, rfl⟩ | exact ⟨by rw [hd]; rfl, rfl⟩
set_option maxHeartbeats 1000000 in
theorem nan_any (x : Int) (w : World) : Calls Tryd.prog 87 #[.int .u64 x] w fun e w' => e = .returned (.bool false) ∧ w = w' := by
  go_enter Tryd.func87, Tryd.ntmps87
  go_wp2
  go_ret
  exact ⟨rfl, rfl⟩

/-- How many of a list lie below x. -/
def lows (l : List Int) (x : Int) : Nat := (l.takeWhile (fun y => decide (y < x))).length
/-- Is x in the list? -/
def hitB (l : List Int) (n : Nat) (x : Int) : Bool := decide (lows l x < n ∧ l.getD (lows l x) 0 = x)
theorem lows_le (l : List Int) (x : Int) : lows l x ≤ l.length := by
  unfold lows; exact List.Sublist.length_le (List.takeWhile_sublist _)
/-- In a rising list the place is where the elements cease to be below x. -/
theorem lows_eq {l : List Int} {x : Int} {k : Nat} (hk : k ≤ l.length) (h1 : ∀ i, i < k → l.getD i 0 < x) (h2 : ∀ i, k ≤ i → i < l.length → x ≤ l.getD i 0) : lows l x = k := by
  induction l generalizing k with
  | nil => simp at hk; subst hk; rfl
  | cons a l ih =>
    cases k with
    | zero =>
      have := h2 0 (Nat.le_refl _) (by simp)
      simp at this
      unfold lows
      rw [List.takeWhile_cons, if_neg (by simp; omega)]
      rfl
    | succ k =>
      have h0 := h1 0 (by omega)
      simp at h0
      have := ih (k := k) (by simpa using hk) (fun i hi => by simpa using h1 (i + 1) (by omega)) (fun i hi hl => by simpa using h2 (i + 1) (by omega) (by simpa using hl))
      unfold lows at this ⊢
      rw [List.takeWhile_cons, if_pos (by simpa using h0)]
      simpa using this
theorem rise_get {l : List Int} (h : l.Pairwise (· < ·)) {i j : Nat} (hij : i ≤ j) (hj : j < l.length) : l.getD i 0 ≤ l.getD j 0 := by
  have hi : i < l.length := by omega
  have e : ∀ {k : Nat} (h : k < l.length), l.getD k 0 = l[k] := fun h => by simp [List.getD, h]
  rw [e hi, e hj]
  rcases Nat.lt_or_eq_of_le hij with h1 | h1
  · exact Int.le_of_lt (List.pairwise_iff_getElem.1 h i j hi hj h1)
  · subst h1; exact Int.le_refl _

set_option maxHeartbeats 4000000 in
theorem search_any (w : World) {g n cap : Nat} {l : List Int} (x : Int) (hl : l.length = n) (hn : n ≤ 4611686018427387904) (hc : ∀ i, i < n → w.cell? ⟨g, i, none⟩ = some (.int .u64 (l.getD i 0))) (hr : l.Pairwise (· < ·)) :
    Calls Tryd.prog 71 #[.slice (some ⟨g, 0, none⟩) n cap, .int .u64 x] w fun e w' =>
      e = .returned (.tuple #[.int .i64 (lows l x), .bool (hitB l n x)]) ∧ w = w' := by
  have HC := Lib.hid hc
  have HL := Lib.hid hl
  clear hc hl
  go_enter Tryd.func71, Tryd.ntmps71
  go_wp2_with fail
  go_loop [7, 8] (fun i j => ∃ (a b : Nat), i = .int .i64 a ∧ j = .int .i64 b ∧ a ≤ b ∧ b ≤ n ∧ Hid (∀ k, k < a → l.getD k 0 < x) ∧ Hid (∀ k, b ≤ k → k < n → x ≤ l.getD k 0)) (fun i j => ((intOf j) - (intOf i)).toNat)
  case atStart => exact ⟨0, n, rfl, rfl, by omega, by omega, (fun k hk => by omega), (fun k h1 h2 => by omega)⟩
  case round =>
    obtain ⟨a, b, rfl, rfl, hab, hbn, H1, H2⟩ := hrel
    by_cases hlt : a < b
    · obtain ⟨m, hm⟩ : ∃ m : Nat, ((a : Int) + b) / 2 = m := ⟨(((a : Int) + b) / 2).toNat, by omega⟩
      have m1 : a ≤ m := by omega
      have m2 : m < b := by omega
      have hmn : (m : Int) < n := by omega
      have cm : w.cell? ⟨g, m, none⟩ = some (.int .u64 (l.getD m 0)) := HC.out m (by omega)
      obtain ⟨y, hy⟩ : ∃ y, y = l.getD m 0 := ⟨_, rfl⟩
      rw [← hy] at cm
      have HY := Lib.hid hy
      clear hy
      by_cases hyx : y < x
      · have hd : decide (y < x) = true := decide_eq_true hyx
        go_wp2_with (go_at_call 86; refine (less_any _ _ _).mono ?_; rintro e w' ⟨rfl, rfl⟩)
        go_round
        case rel =>
          refine ⟨m + 1, b, by go_num, rfl, by omega, hbn, fun k hk => ?_, H2⟩
          have := rise_get hr (show k ≤ m by omega) (by have := HL.out; omega)
          have := HY.out
          omega
        case measure => simp [intOf]; omega
      · have hd : decide (y < x) = false := decide_eq_false hyx
        go_wp2_with (go_at_call 86; refine (less_any _ _ _).mono ?_; rintro e w' ⟨rfl, rfl⟩)
        go_round
        case rel =>
          refine ⟨a, m, rfl, rfl, by omega, by omega, H1, fun k h1 h2 => ?_⟩
          have := rise_get hr h1 (by have := HL.out; omega)
          have := HY.out
          omega
        case measure => simp [intOf]; omega
    · obtain rfl : a = b := by omega
      have hlow : lows l x = a := lows_eq (by have := HL.out; omega) H1.out (fun k h1 h2 => H2.out k h1 (by have := HL.out; omega))
      have HW := Lib.hid hlow
      clear hlow
      by_cases han : a < n
      · have ca : w.cell? ⟨g, a, none⟩ = some (.int .u64 (l.getD a 0)) := HC.out a han
        obtain ⟨y, hy⟩ : ∃ y, y = l.getD a 0 := ⟨_, rfl⟩
        rw [← hy] at ca
        have HY := Lib.hid hy
        clear hy
        have hani : (a : Int) < n := by omega
        by_cases hyx : y = x
        · subst hyx
          go_wp2_with (go_at_call 87; refine (nan_any _ _).mono ?_; rintro e w' ⟨rfl, rfl⟩)
          go_ret2
          refine ⟨?_, rfl⟩
          rw [show hitB l n y = true from decide_eq_true (by rw [HW.out]; exact ⟨han, HY.out.symm⟩), HW.out]
          rfl
        · have hd : (y == x) = false := by rw [beq_eq_false_iff_ne]; exact hyx
          go_wp2_with (go_at_call 87; refine (nan_any _ _).mono ?_; rintro e w' ⟨rfl, rfl⟩)
          go_ret2
          refine ⟨?_, rfl⟩
          rw [show hitB l n x = false from decide_eq_false (by rw [HW.out]; exact fun h => hyx (HY.out.trans h.2)), HW.out]
          rfl
      · have hani : decide ((a : Int) < n) = false := by rw [decide_eq_false_iff_not]; omega
        go_wp2_with (go_at_call 87; refine (nan_any _ _).mono ?_; rintro e w' ⟨rfl, rfl⟩)
        go_ret2
        refine ⟨?_, rfl⟩
        rw [show hitB l n x = false from decide_eq_false (by rw [HW.out]; exact fun h => han h.1), HW.out]
        rfl

set_option maxHeartbeats 4000000 in
/-- slices.Delete of the elements from i to j, over a whole block. -/
theorem delete_any (w : World) {g n cap i j : Nat} {cur : Array Value} {l : List Int} (hr : row w g = some (cur, 30)) (hcs : cur.size = cap) (hn : n ≤ cap) (hl : l.length = n) (hct : cur.toList.take n = u64s l) (hij : i < j) (hj : j ≤ n) :
    Calls Tryd.prog 91 #[.slice (some ⟨g, 0, none⟩) n cap, .int .i64 i, .int .i64 j] w fun e w' =>
      e = .returned (.slice (some ⟨g, 0, none⟩) (n - (j - i)) cap) ∧ ∃ cur', row w' g = some (cur', 30) ∧ cur'.size = cap ∧ cur'.toList.take (n - (j - i)) = u64s (l.take i ++ l.drop j) ∧ Keep w w' (· = g) := by
  obtain ⟨i0, hi0, hz0, hz1, hz2⟩ := info_parts infoU
  obtain ⟨news, hnews⟩ : ∃ news, news = u64s (l.drop j) := ⟨_, rfl⟩
  have hlen : news.length = n - j := by rw [hnews]; simp [u64s, hl]
  have hcell : ∀ t, t < n → w.cell? ⟨g, t, none⟩ = (u64s l)[t]? := fun t ht => by
    rw [cell_row hr, ← hct, List.getElem?_take, if_pos ht, Array.getElem?_toList]
  obtain ⟨A, hA, hsrc⟩ : ∃ A : Addr, (if cap = j then some (⟨g, 0, none⟩ : Addr) else some ⟨g, j, none⟩) = some A ∧ Hid (∀ t u, news[t]? = some u → w.drew.cell? (A.add t) = some u) := by
    by_cases h : cap = j
    · refine ⟨⟨g, 0, none⟩, by simp [h], fun t u hu => ?_⟩
      have h0 : news.length = 0 := by omega
      rw [List.length_eq_zero_iff.1 h0] at hu
      simp at hu
    · refine ⟨⟨g, j, none⟩, by simp [h], fun t u hu => ?_⟩
      have ht : t < n - j := by rw [← hlen]; exact (List.getElem?_eq_some_iff.1 hu).1
      rw [addp]
      show w.cell? ⟨g, j + t, none⟩ = some u
      rw [hcell (j + t) (by omega), ← hu, hnews]
      simp [u64s, List.getElem?_drop]
  have s1 : Hid (news.length = (n - j) * 1) := by rw [Nat.mul_one]; exact hlen
  have s2 : Hid (∀ u ∈ news, u.oneCell' = true) := by
    intro u hu
    rw [hnews] at hu
    simp only [u64s, List.mem_map] at hu
    obtain ⟨x, _, rfl⟩ := hu
    rfl
  have s3 : Hid (∀ t, t < news.length → (w.drew.cell? ⟨g, 0 + i * 1 + t, none⟩).isSome = true ∧ w.drew.frozen? ⟨g, 0 + i * 1 + t, none⟩ = false) := by
    intro t ht
    rw [hlen] at ht
    refine ⟨?_, frozen_row hr⟩
    show (w.cell? _).isSome = true
    rw [cell_row hr, Array.getElem?_eq_getElem (by omega)]; rfl
  have hrd : row w.drew g = some (cur, 30) := hr
  obtain ⟨c1, hc1⟩ : ∃ c1, c1 = (cur.toList.take (0 + i * 1) ++ news ++ cur.toList.drop (0 + i * 1 + news.length)).toArray := ⟨_, rfl⟩
  have hc1s : c1.size = cap := by rw [hc1]; simp; omega
  obtain ⟨W1, hW1⟩ : ∃ W1, W1 = w.drew.setCells g (0 + i * 1) news := ⟨_, rfl⟩
  have hW1' : W1 = w.drew.setRow g c1 := by rw [hW1, hc1]; exact setCells_setRow news (0 + i * 1) w.drew hrd (by omega)
  have r1 : row W1 g = some (c1, 30) := by rw [hW1', row_setRow_eq, hrd]; rfl
  have hcl := run_clear_row (P := Tryd.prog) W1 Tryd.underlying63 (fun w => Tryd.zeroValue30 w) rfl rfl r1 (i + (n - j)) (n - (i + (n - j))) (cap - (i + (n - j))) (by omega) (by omega)
  obtain ⟨c2, hc2⟩ : ∃ c2, c2 = (c1.toList.take (i + (n - j)) ++ List.replicate (n - (i + (n - j))) (Value.int .u64 0) ++ c1.toList.drop (i + (n - j) + (n - (i + (n - j))))).toArray := ⟨_, rfl⟩
  rw [← hc2] at hcl
  have k1 : Keep w W1 (· = g) := by rw [hW1']; exact (Keep.drew w (· = g)).thenRow g c1 (fun _ => rfl)
  have X : Hid (W1 = w.drew.setCells g (0 + i * 1) news) := hW1
  have HX := Lib.hid (And.intro r1 (And.intro k1 (And.intro hc1 (And.intro hc2 (And.intro hnews hct)))))
  have hic : i ≤ cap := by omega
  have hjc : j ≤ cap := by omega
  clear hW1 hW1' r1 k1 hc1 hc2 hnews hct hrd hcell hr hlen
  go_enter Tryd.func91, Tryd.ntmps91
  go_wp2_with fail
  go_region_law (refine step_append_room rfl (.tmp 22) (.tmp 25) 63 rfl 30 i0 1 Tryd.underlying63 hi0 hz1 g 0 i cap (by simp [Act.eval, Act.put]) A (n - j) (cap - j) news (by simp [Act.eval, Act.put]) s1.out hsrc.out s2.out (by omega) s3.out ?_; rw [← X.out])
  go_wp2
  go_ret
  obtain ⟨r1, k1, hc1, hc2, hnews, hct⟩ := HX.out
  have hnl : news.length = n - j := by have := s1.out; omega
  refine ⟨by rw [show n - (j - i) = i + (n - j) by omega]; rfl, c2, ?_, ?_, ?_, k1.thenRow g c2 (fun _ => rfl)⟩
  · rw [row_setRow_eq, r1]; rfl
  · rw [hc2]; simp; omega
  · rw [hc2, show n - (j - i) = i + (n - j) by omega]
    simp only
    rw [List.append_assoc, List.take_append_of_le_length (by simp; omega), List.take_take, Nat.min_self]
    have e0 : 0 + i * 1 = i := by omega
    rw [e0] at hc1
    have e1 : (cur.toList.take i ++ news).length = i + (n - j) := by simp; omega
    have e2 : cur.toList.take i = (u64s l).take i := by rw [← hct, List.take_take, Nat.min_eq_left (by omega)]
    rw [hc1]
    simp only
    rw [← e1, List.take_left', e2, hnews]
    · simp [u64s, List.map_take]
    · rfl

/-! ### without, above -/
theorem lows_lt {l : List Int} {x : Int} {i : Nat} (h : i < lows l x) : l.getD i 0 < x := by
  induction l generalizing i with
  | nil => simp [lows] at h
  | cons a l ih =>
    unfold lows at h
    rw [List.takeWhile_cons] at h
    split at h
    · rename_i ha
      cases i with
      | zero => simpa using ha
      | succ i => simpa using ih (i := i) (by unfold lows; simpa using h)
    · simp at h
theorem lows_ge {l : List Int} {x : Int} (hr : l.Pairwise (· < ·)) {i : Nat} (h : lows l x ≤ i) (hi : i < l.length) : x ≤ l.getD i 0 := by
  induction l generalizing i with
  | nil => simp at hi
  | cons a l ih =>
    rw [List.pairwise_cons] at hr
    unfold lows at h
    rw [List.takeWhile_cons] at h
    split at h
    · cases i with
      | zero => simp at h
      | succ i => simpa using ih hr.2 (i := i) (by unfold lows; simpa using h) (by simpa using hi)
    · rename_i ha
      have ha' : x ≤ a := by simpa using ha
      cases i with
      | zero => simpa using ha'
      | succ i =>
        have hi' : i < l.length := by simpa using hi
        have := hr.1 l[i] (List.getElem_mem hi')
        have e : (a :: l).getD (i + 1) 0 = l[i] := by simp [List.getD, hi']
        rw [e]; omega
theorem getD_lt {l : List Int} {i : Nat} (h : i < l.length) : l.getD i 0 = l[i] := by simp [List.getD, h]
theorem hit_of_mem {l : List Int} {x : Int} (hr : l.Pairwise (· < ·)) (h : x ∈ l) : lows l x < l.length ∧ l.getD (lows l x) 0 = x := by
  obtain ⟨k, hk, e⟩ := List.getElem_of_mem h
  have h1 : lows l x ≤ k := by
    rcases Nat.lt_or_ge k (lows l x) with h' | h'
    · have := lows_lt h'; rw [getD_lt hk, e] at this; omega
    · exact h'
  have h2 : lows l x < l.length := by omega
  refine ⟨h2, ?_⟩
  have h3 := lows_ge hr (Nat.le_refl (lows l x)) h2
  have h4 := rise_get hr h1 hk
  rw [getD_lt hk, e] at h4
  omega
theorem erase_eq {l : List Int} {x : Int} (hr : l.Pairwise (· < ·)) {k : Nat} (hk : k < l.length) (hx : l.getD k 0 = x) : l.take k ++ l.drop (k + 1) = l.filter (· != x) := by
  induction l generalizing k with
  | nil => simp at hk
  | cons a l ih =>
    rw [List.pairwise_cons] at hr
    cases k with
    | zero =>
      have hx' : a = x := by simpa using hx
      subst hx'
      have : l.filter (· != a) = l := by
        rw [List.filter_eq_self]
        intro b hb
        have := hr.1 b hb
        simp; omega
      simp [this]
    | succ k =>
      have hk' : k < l.length := by simpa using hk
      have hx' : l.getD k 0 = x := by simpa using hx
      have hmem : x ∈ l := by rw [← hx', getD_lt hk']; exact List.getElem_mem hk'
      have := hr.1 x hmem
      rw [List.take_succ_cons, List.drop_succ_cons, List.cons_append, ih hr.2 hk' hx', List.filter_cons, if_pos (by simp; omega)]

set_option maxHeartbeats 4000000 in
theorem without_any (w : World) {v : Value} {l : List Int} (ho : w.ownsRow 0 30 1 v l.length (u64s l)) (hr : l.Pairwise (· < ·)) (hlen : l.length ≤ 4611686018427387904) {x : Int} (hx : x ∈ l) :
    Calls Tryd.prog 82 #[v, .int .u64 x] w fun e w' => ∃ v', e = .returned v' ∧ w'.ownsRow 0 30 1 v' (l.filter (· != x)).length (u64s (l.filter (· != x))) ∧ v'.ownBlock = v.ownBlock ∧ Keep w w' (fun b => v.ownBlock = some b) := by
  obtain ⟨hh1, hh2⟩ := hit_of_mem hr hx
  obtain ⟨g, cap, rfl⟩ : ∃ g cap, v = .slice (some ⟨g, 0, none⟩) l.length cap := by
    rcases ho.2 with ⟨_, e⟩ | ⟨g, cap, cur, e, _⟩
    · omega
    · exact ⟨g, cap, e⟩
  obtain ⟨cur, rg, hcs, hnc, hcm, hct, _⟩ := ownsRow_row ho
  obtain ⟨k, hk⟩ : ∃ k, k = lows l x := ⟨_, rfl⟩
  have hhit : hitB l l.length x = true := decide_eq_true ⟨hh1, hh2⟩
  rw [← hk] at hh1 hh2
  have her := erase_eq hr hh1 hh2
  have hcells : ∀ i, i < l.length → w.cell? ⟨g, i, none⟩ = some (.int .u64 (l.getD i 0)) := fun i hi => by
    rw [ho.cellAt i (by omega), getD_lt hi]; simp [u64s, hi]
  have hsr := search_any w (cap := cap) x rfl hlen hcells hr
  rw [hhit, ← hk] at hsr
  obtain ⟨n, hn⟩ : ∃ n, n = l.length := ⟨_, rfl⟩
  have hdel := delete_any w (i := k) (j := k + 1) rg hcs hnc rfl hct (by omega) (by omega)
  rw [her] at hdel
  have HS := Lib.hid (And.intro hsr hdel)
  have HF := Lib.hid (And.intro hcm (And.intro her hnc))
  clear hsr hdel her ho rg hct hcs hcells hhit hk hh2 hcm
  rw [← hn] at HS hlen hh1 hnc ⊢
  have hk1 : (k : Int) < n := by omega
  have HN := Lib.hid hn
  clear hn hx hr
  go_enter Tryd.func82, Tryd.ntmps82
  go_wp2_with (go_at_call 71; refine HS.out.1.mono ?_; rintro e w' ⟨rfl, rfl⟩)
  refine HS.out.2.mono ?_
  rintro e w' ⟨rfl, cur', r', hs', ht', k'⟩
  have HE := Lib.hid (And.intro r' (And.intro hs' (And.intro ht' k')))
  clear r' hs' ht' k'
  go_wp2_with fail
  go_ret
  obtain ⟨r', hs', ht', k'⟩ := HE.out
  have e1 : n - (k + 1 - k) = (l.filter (· != x)).length := by
    have := congrArg List.length HF.out.2.1
    simp at this
    have hh := HN.out
    rw [← this]
    omega
  have e2 : n - 1 = (l.filter (· != x)).length := by rw [← e1]; omega
  rw [e1] at ht'
  refine ⟨.slice (some ⟨g, 0, none⟩) (l.filter (· != x)).length cap, by rw [← e2]; rfl, ?_, rfl, k'.mono (fun b _ h => by have h' : b = g := h; rw [h']; rfl)⟩
  rw [← ht']
  have hle : (l.filter (· != x)).length ≤ cap := by have := HN.out; have := List.length_filter_le (· != x) l; omega
  exact ownsRow_of r' hs' hle HF.out.1 (Nat.zero_le _)

/-- The first of a list that is greater. -/
def abv (l : List Int) (last : Int) : Option Int := l.find? (fun q => decide (last < q))
theorem abv_eq {l : List Int} (hr : l.Pairwise (· < ·)) (x : Int) : abv l x = l[if hitB l l.length x then lows l x + 1 else lows l x]? := by
  unfold abv
  obtain ⟨k, hk⟩ : ∃ k, k = (if hitB l l.length x then lows l x + 1 else lows l x) := ⟨_, rfl⟩
  rw [← hk]
  have hkl : k ≤ l.length := by
    rw [hk]; split
    · rename_i h; have := (of_decide_eq_true h).1; omega
    · exact lows_le l x
  have h1 : ∀ i, i < k → l.getD i 0 ≤ x := fun i hi => by
    rw [hk] at hi
    split at hi
    · rename_i h
      rcases Nat.lt_or_eq_of_le (Nat.le_of_lt_succ hi) with h' | h'
      · have := lows_lt h'; omega
      · rw [h', (of_decide_eq_true h).2]; omega
    · have := lows_lt hi; omega
  have h2 : ∀ (hi : k < l.length), x < l[k] := fun hi => by
    rw [← getD_lt hi]
    rw [hk] at hi ⊢
    split at hi
    · rename_i h
      rw [if_pos h]
      have hh := of_decide_eq_true h
      have := List.pairwise_iff_getElem.1 hr (lows l x) (lows l x + 1) hh.1 hi (by omega)
      rw [getD_lt hi]
      have e := hh.2
      rw [getD_lt hh.1] at e
      omega
    · rename_i h
      rw [if_neg h]
      have h3 := lows_ge hr (Nat.le_refl (lows l x)) hi
      have h4 : l.getD (lows l x) 0 ≠ x := fun e => h (decide_eq_true ⟨hi, e⟩)
      omega
  clear hk hr
  induction l generalizing k with
  | nil => simp
  | cons a l ih =>
    cases k with
    | zero =>
      have := h2 (by simp)
      simp at this
      rw [List.find?_cons]
      simp [this]
    | succ k =>
      have h0 := h1 0 (by omega)
      simp at h0
      rw [List.find?_cons]
      have e : decide (x < a) = false := decide_eq_false (by omega)
      rw [e]
      simp only [List.getElem?_cons_succ]
      exact ih k (by simpa using hkl) (fun i hi => by simpa using h1 (i + 1) (by omega)) (fun hi => by have := h2 (by simpa using hi); rwa [List.getElem_cons_succ] at this)

set_option maxHeartbeats 4000000 in
theorem search_nil (w : World) (x : Int) :
    Calls Tryd.prog 71 #[.slice none 0 0, .int .u64 x] w fun e w' => e = .returned (.tuple #[.int .i64 0, .bool false]) ∧ w = w' := by
  go_enter Tryd.func71, Tryd.ntmps71
  go_wp2_with fail
  go_loop [7, 8] (fun i j => i = .int .i64 0 ∧ j = .int .i64 0) (fun _ _ => 0)
  case atStart => exact ⟨rfl, rfl⟩
  case round =>
    obtain ⟨rfl, rfl⟩ := hrel
    go_wp2_with (go_at_call 87; refine (nan_any _ _).mono ?_; rintro e w' ⟨rfl, rfl⟩)
    go_ret2
    exact ⟨rfl, rfl⟩

/-- What above answers. -/
def abvV (l : List Int) (last : Int) : Value := .tuple #[.int .u64 ((abv l last).getD 0), .bool (abv l last).isSome]
set_option maxHeartbeats 4000000 in
theorem above_any (w : World) {v : Value} {l : List Int} (ho : w.ownsRow 0 30 1 v l.length (u64s l)) (hr : l.Pairwise (· < ·)) (hlen : l.length ≤ 4611686018427387904) (x : Int) :
    Calls Tryd.prog 48 #[v, .int .u64 x] w fun e w' => e = .returned (abvV l x) ∧ w = w' := by
  rcases ho.2 with ⟨rfl, hl0⟩ | ⟨g, cap, cur, rfl, _, _, hnc, _⟩
  · obtain rfl : l = [] := List.length_eq_zero_iff.1 hl0
    go_enter Tryd.func48, Tryd.ntmps48
    go_wp2_with (go_at_call 71; refine (search_nil _ _).mono ?_; rintro e w' ⟨rfl, rfl⟩)
    go_ret2
    exact ⟨rfl, rfl⟩
  · have hcells : ∀ i, i < l.length → w.cell? ⟨g, i, none⟩ = some (.int .u64 (l.getD i 0)) := fun i hi => by
      rw [ho.cellAt i (by omega), getD_lt hi]; simp [u64s, hi]
    have hsr := search_any w (cap := cap) x rfl hlen hcells hr
    have hab := abv_eq hr x
    have hkl := lows_le l x
    obtain ⟨n, hn⟩ : ∃ n, n = l.length := ⟨_, rfl⟩
    rw [← hn] at hsr hlen hab hkl hnc ⊢
    have HN := Lib.hid hn
    have HC := Lib.hid hcells
    clear hn hr hcells
    have hk0 : hitB l n x = true → lows l x < n := fun h => (of_decide_eq_true h).1
    generalize lows l x = k at hsr hab hkl hk0
    cases hh : hitB l n x with
    | true =>
      rw [hh] at hsr
      rw [hh, if_pos rfl] at hab
      have hkn : k < n := hk0 hh
      have HS := Lib.hid hsr
      have HA := Lib.hid hab
      clear hsr hab hh hk0
      by_cases hk1 : k + 1 = n
      · have hv : abvV l x = .tuple #[.int .u64 0, .bool false] := by
          unfold abvV; rw [HA.out, List.getElem?_eq_none (by have := HN.out; omega)]; rfl
        have HV := Lib.hid hv
        have hki : (k : Int) + 1 = n := by omega
        clear hv
        go_enter Tryd.func48, Tryd.ntmps48
        go_wp2_with (go_at_call 71; refine HS.out.mono ?_; rintro e w' ⟨rfl, rfl⟩)
        go_ret2
        exact ⟨by rw [HV.out]; rfl, rfl⟩
      · have hk2 : k + 1 < n := by omega
        have hv : abvV l x = .tuple #[.int .u64 (l.getD (k + 1) 0), .bool true] := by
          have hh := HN.out
          unfold abvV; rw [HA.out, List.getElem?_eq_getElem (by omega), getD_lt (by omega)]; rfl
        have HV := Lib.hid hv
        have hki : ¬ ((k : Int) + 1 = n) := by omega
        have hki2 : ((k : Int) + 1) < n := by omega
        have cc : w.cell? ⟨g, k + 1, none⟩ = some (.int .u64 (l.getD (k + 1) 0)) := HC.out (k + 1) (by have := HN.out; omega)
        obtain ⟨y, hy⟩ : ∃ y, y = l.getD (k + 1) 0 := ⟨_, rfl⟩
        rw [← hy] at cc HV
        clear hv hy
        go_enter Tryd.func48, Tryd.ntmps48
        go_wp2_with (go_at_call 71; refine HS.out.mono ?_; rintro e w' ⟨rfl, rfl⟩)
        go_ret2
        exact ⟨by rw [HV.out]; rfl, rfl⟩
    | false =>
      rw [hh] at hsr
      rw [hh, if_neg (by simp)] at hab
      have HS := Lib.hid hsr
      have HA := Lib.hid hab
      clear hsr hab hh hk0
      by_cases hk1 : k = n
      · subst hk1
        have hv : abvV l x = .tuple #[.int .u64 0, .bool false] := by
          unfold abvV; rw [HA.out, List.getElem?_eq_none (by have := HN.out; omega)]; rfl
        have HV := Lib.hid hv
        clear hv
        go_enter Tryd.func48, Tryd.ntmps48
        go_wp2_with (go_at_call 71; refine HS.out.mono ?_; rintro e w' ⟨rfl, rfl⟩)
        go_ret2
        exact ⟨by rw [HV.out]; rfl, rfl⟩
      · have hk2 : k < n := by omega
        have hv : abvV l x = .tuple #[.int .u64 (l.getD k 0), .bool true] := by
          have hh := HN.out
          unfold abvV; rw [HA.out, List.getElem?_eq_getElem (by omega), getD_lt (by omega)]; rfl
        have HV := Lib.hid hv
        have hki : ¬ ((k : Int) = n) := by omega
        have hki2 : (k : Int) < n := by omega
        have cc : w.cell? ⟨g, k, none⟩ = some (.int .u64 (l.getD k 0)) := HC.out k (by have := HN.out; omega)
        obtain ⟨y, hy⟩ : ∃ y, y = l.getD k 0 := ⟨_, rfl⟩
        rw [← hy] at cc HV
        clear hv hy
        go_enter Tryd.func48, Tryd.ntmps48
        go_wp2_with (go_at_call 71; refine HS.out.mono ?_; rintro e w' ⟨rfl, rfl⟩)
        go_ret2
        exact ⟨by rw [HV.out]; rfl, rfl⟩
end Go.Proofs.YtfbcdhcgmncklaaDoor
