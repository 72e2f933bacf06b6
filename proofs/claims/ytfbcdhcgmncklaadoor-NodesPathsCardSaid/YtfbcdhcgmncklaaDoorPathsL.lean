/- The law NodesPaths, walked. -/
import Derived.Test.YtfbcdhcgmncklaaDoorPathsP
import Derived.Maps.AppendAt
import Derived.Deep.DeepCutAuto
namespace Go.Proofs.YtfbcdhcgmncklaaDoor
open Go Go.RowKit Go.Nd Go.Maps Go.MuLone Go.RwLone
set_option maxRecDepth 100000

/-- What pick answers. -/
def pickZ (c n : Int) : Int := (if c < 0 then -(c + 1) else c) % n
theorem pickZ_lt {c n : Int} (hn : 0 < n) : 0 ≤ pickZ c n ∧ pickZ c n < n := by
  unfold pickZ; exact ⟨Int.emod_nonneg _ (by omega), Int.emod_lt_of_pos _ hn⟩
set_option maxHeartbeats 1000000 in
theorem pick_any (w : World) {c n : Int} (c0 : -9223372036854775808 ≤ c) (c1 : c < 9223372036854775808) (n0 : 0 < n) (n1 : n < 9223372036854775808) :
    Calls Tryd.prog 22 #[.int .i64 c, .int .i64 n] w fun e w' => e = .returned (.int .i64 (pickZ c n)) ∧ w = w' := by
  by_cases hc : c < 0
  · have hv : pickZ c n = (-(c + 1)) % n := by unfold pickZ; rw [if_pos hc]
    have hm : (-(c + 1)).tmod n = (-(c + 1)) % n := Int.tmod_eq_emod_of_nonneg (by omega)
    have HV := Lib.hid hv
    clear hv
    go_enter Tryd.func22, Tryd.ntmps22
    go_wp2_with fail
    go_ret
    exact ⟨ret_int (by rw [HV.out]), rfl⟩
  · have hv : pickZ c n = c % n := by unfold pickZ; rw [if_neg hc]
    have HV := Lib.hid hv
    clear hv
    have hc0 : 0 ≤ c := by omega
    go_enter Tryd.func22, Tryd.ntmps22
    go_wp2_with fail
    go_ret
    exact ⟨ret_int (by rw [HV.out]), rfl⟩

/-- The path ahead of the j-th of a list. -/
def prevOf (l : List Int) (j : Nat) : Int := if j = 0 then 0 else l.getD (j - 1) 0
theorem rise_lt {l : List Int} (h : l.Pairwise (· < ·)) {i j : Nat} (hij : i < j) (hj : j < l.length) : l.getD i 0 < l.getD j 0 := by
  have hi : i < l.length := by omega
  rw [getD_lt hi, getD_lt hj]
  exact List.pairwise_iff_getElem.1 h i j hi hj hij
theorem abv_prev {l : List Int} (hr : l.Pairwise (· < ·)) (hp : ∀ p ∈ l, 0 < p) {j : Nat} (hj : j ≤ l.length) : abv l (prevOf l j) = l[j]? := by
  rw [abv_eq hr]
  have gp : ∀ i, i < l.length → 0 < l.getD i 0 := fun i hi => by rw [getD_lt hi]; exact hp _ (List.getElem_mem hi)
  by_cases h0 : j = 0
  · subst h0
    have e : prevOf l 0 = 0 := rfl
    have hl : lows l 0 = 0 := lows_eq (Nat.zero_le _) (fun i hi => absurd hi (Nat.not_lt_zero _)) (fun i _ hi => Int.le_of_lt (gp i hi))
    have hh : hitB l l.length 0 = false := decide_eq_false (fun h => by rw [hl] at h; have := gp 0 h.1; omega)
    rw [e, hh, hl]; rfl
  · have e : prevOf l j = l.getD (j - 1) 0 := if_neg h0
    have hl : lows l (l.getD (j - 1) 0) = j - 1 := lows_eq (by omega) (fun i hi => rise_lt hr hi (by omega)) (fun i hi hi2 => rise_get hr hi hi2)
    have hh : hitB l l.length (l.getD (j - 1) 0) = true := decide_eq_true (by rw [hl]; exact ⟨by omega, rfl⟩)
    rw [e, hh, hl, if_pos rfl]
    congr 1
    omega

/-- What the first loop keeps. -/
def PathsRel (W : World) (s k : Nat) (v : Value) (last : Int) (wr : World) : Prop :=
  ∃ own A live, Live W.heap.size wr own s A ∧ PathsInv A live last k ∧ wr.ownsRow W.heap.size 30 1 v live.length (u64s live) ∧ (∀ g, v.ownBlock = some g → own g = none) ∧ Keep W wr (fun b => W.heap.size ≤ b)

theorem pathsRel_end {W w3 w4 w5 : World} {s k : Nat} {own3 : Own} {A : St} {live : List Int} {last : Int} {v4 v5 : Value} {n5 : Nat} {xs5 : List Value} (hl : Live W.heap.size w3 own3 s A) (hi : PathsInv A live last k) (hk : Keep W w3 (fun b => W.heap.size ≤ b))
    (k4 : Keep w3 w4 (fun _ => False)) (l4 : v4.ownBlock = (Value.slice none 0 0).ownBlock ∨ v4.ownBlock = some w3.heap.size) (k5 : Keep w4 w5 (fun b => v4.ownBlock = some b)) (l5 : v5.ownBlock = v4.ownBlock ∨ v5.ownBlock = some w4.heap.size)
    (ho : w5.ownsRow W.heap.size 30 1 v5 n5 xs5) (hn : n5 = live.length) (hx : xs5 = u64s live) : PathsRel W s k v5 last w5 := by
  subst hn hx
  have z4 := k4.size
  have zW := hk.size
  have fr : ∀ b, w3.heap.size ≤ b → own3 b = none := fun b hb => by
    obtain ⟨_, _, _, _, _, hr⟩ := hl.st
    cases h : own3 b with
    | none => rfl
    | some r => have := hr.dom b (by rw [h]; simp); omega
  have h4 : ∀ b, v4.ownBlock = some b → w3.heap.size ≤ b := fun b hb => by
    rcases l4 with h | h
    · rw [h] at hb; cases hb
    · rw [h] at hb; cases hb; exact Nat.le_refl _
  have h5 : ∀ b, v5.ownBlock = some b → w3.heap.size ≤ b := fun b hb => by
    rcases l5 with h | h
    · exact h4 b (h ▸ hb)
    · rw [h] at hb; cases hb; exact z4
  have k35 : Keep w3 w5 (fun b => v4.ownBlock = some b) := (k4.mono (fun _ _ h => h.elim)).trans k5 (fun _ _ h => h)
  exact ⟨own3, A, live, hl.keep k35 (fun b hb => ⟨fr b (h4 b hb), Nat.le_trans zW (h4 b hb)⟩), hi, ho, fun g hg => fr g (h5 g hg), hk.trans k35 (fun b _ hb => Nat.le_trans zW (h4 b hb))⟩

theorem pathsRel_make {W w5 w6 : World} {s k : Nat} {own5 : Own} {A : St} {live : List Int} {last : Int} {v v6 : Value} {n6 : Nat} {xs6 : List Value} (hl : Live W.heap.size w5 own5 s A) (hi : PathsInv A live last k) (hk : Keep W w5 (fun b => W.heap.size ≤ b))
    (hv : ∀ g, v.ownBlock = some g → own5 g = none ∧ W.heap.size ≤ g) (k6 : Keep w5 w6 (fun b => v.ownBlock = some b)) (l6 : v6.ownBlock = v.ownBlock ∨ ∃ b, v6.ownBlock = some b ∧ w5.heap.size ≤ b)
    (ho : w6.ownsRow W.heap.size 30 1 v6 n6 xs6) (hn : n6 = live.length) (hx : xs6 = u64s live) : PathsRel W s k v6 last w6 := by
  subst hn hx
  have fr : ∀ b, w5.heap.size ≤ b → own5 b = none := fun b hb => by
    obtain ⟨_, _, _, _, _, hr⟩ := hl.st
    cases h : own5 b with
    | none => rfl
    | some r => have := hr.dom b (by rw [h]; simp); omega
  refine ⟨own5, A, live, hl.keep k6 (fun b hb => hv b hb), hi, ho, fun g hg => ?_, hk.trans k6 (fun b _ hb => (hv b hb).2)⟩
  rcases l6 with h | ⟨b, h, hb⟩
  · exact (hv g (h ▸ hg)).1
  · rw [h] at hg; cases hg; exact fr _ hb

theorem letters (k : Nat) : strOfNums [97 + (k : Int) % 26, 97 + (k : Int) / 26 % 26, 97 + (k : Int) / 676 % 26] = nm3 k := by
  have e : ∀ a : Nat, (97 + (a : Int) % 26).toNat = 97 + a % 26 := fun a => by omega
  have e1 := e k
  have e2 : (97 + (k : Int) / 26 % 26).toNat = 97 + k / 26 % 26 := by omega
  have e3 : (97 + (k : Int) / 676 % 26).toNat = 97 + k / 676 % 26 := by omega
  unfold strOfNums nm3
  simp only [List.map_cons, List.map_nil, e1, e2, e3]
theorem conv_nm3 (k : Nat) (W : World) : (convert 51 9 (.slice (some ⟨W.heap.size, 0, none⟩) 3 3)).run Tryd.prog (W.alloc (.cells #[.int .u8 (97 + (k : Int) % 26), .int .u8 (97 + (k : Int) / 26 % 26), .int .u8 (97 + (k : Int) / 676 % 26)] 5)) =
    .ok (.string (nm3 k)) (W.alloc (.cells #[.int .u8 (97 + (k : Int) % 26), .int .u8 (97 + (k : Int) / 26 % 26), .int .u8 (97 + (k : Int) / 676 % 26)] 5)) := by
  rw [run_convert_bytes_arg _ _ _ Tryd.underlying51 Tryd.underlying5 W.heap.size 0 3 3 [97 + (k : Int) % 26, 97 + (k : Int) / 26 % 26, 97 + (k : Int) / 676 % 26] rfl (fun i hi => ?_) _ Tryd.underlying9, letters]
  rw [cell_row (row_alloc_at W _ _ _ rfl)]
  match i, hi with
  | 0, _ => rfl
  | 1, _ => rfl
  | 2, _ => rfl

set_option maxHeartbeats 8000000 in
theorem paths_any (w : World) (B : Nat) (hB : GB B w) (va : Option Addr) (ds : List Int) (cap : Nat) (db doff : Nat) (hlen : ds.length ≤ 4611686018427387904)
    (hds : ∀ i, i < ds.length → va = some ⟨db, doff, none⟩ ∧ w.cell? ⟨db, doff + i, none⟩ = some (.int .i64 (ds.getD i 0)) ∧ -9223372036854775808 ≤ ds.getD i 0 ∧ ds.getD i 0 < 9223372036854775808) :
    Calls Tryd.prog 6 #[.slice va ds.length cap] w fun e w' => e = .returned (.bool true) ∧ Keep w w' (fun _ => False) := by
  obtain ⟨n, hn⟩ : ∃ n, n = ds.length := ⟨_, rfl⟩
  rw [← hn] at hlen hds ⊢
  have HB := Lib.hid hB
  have HN := Lib.hid hn
  have HD := Lib.hid hds
  clear hB hn hds
  go_enter Tryd.func6, Tryd.ntmps6
  go_wp2_with fail
  refine (works_any w B HB.out).mono ?_
  rintro e w1 ⟨rfl, k1⟩
  have H1 := Lib.hid k1
  clear k1
  by_cases hroom : (8388608 : Int) < n
  · go_wp2_with fail
    go_ret
    exact ⟨rfl, H1.out⟩
  go_wp2_with fail
  refine (law_store w1 B (HB.out.keep H1.out (fun _ h => h.elim)) (most := 40) (by omega) (by omega)).mono ?_
  rintro e w2 ⟨s, own, rfl, hb, hst, hge⟩
  have hL : Live w1.heap.size w2 own s (St.new (lawConf 40)) := by
    have hB1 := HB.out.keep H1.out (fun _ h => h.elim)
    have h2 := hB1.below hb
    exact ⟨hst, ⟨h2.g, Nat.lt_of_lt_of_le h2.b1 hB1.b3, Nat.lt_of_lt_of_le h2.b2 hB1.b3, hb.size⟩, hge⟩
  have hR : PathsRel w1 s 0 (.slice none 0 0) 1 w2 := ⟨own, _, [], hL, paths_start, ⟨rfl, .inl ⟨rfl, rfl⟩⟩, (fun g h => by cases h), Keep.of_below hb _⟩
  have H2 := Lib.hid hR
  clear hb hst hge hL hR
  go_wp2_with fail
  go_loopw [5, 6, 7] (fun v l i wr => ∃ (k : Nat) (last : Int), i = .int .i64 k ∧ l = .int .u64 last ∧ k ≤ n ∧ k ≤ 2000 ∧ PathsRel w1 s k v last wr) (fun _ _ i _ => n - (intOf i).toNat)
  case atStart => exact ⟨0, 1, rfl, rfl, by omega, by omega, H2.out⟩
  case round =>
    obtain ⟨k, last, rfl, rfl, hkn, hk2, hrel⟩ := hrel
    obtain ⟨own, A, live, hlv, hinv, hov, hon, hkp⟩ := hrel
    obtain ⟨L, hL⟩ : ∃ L, L = live.length := ⟨_, rfl⟩
    rw [← hL] at hov
    have h39 : L ≤ 39 := by have := hinv.live39; omega
    obtain ⟨ga, gc, rfl⟩ := ownsRow_slice hov
    have HL := Lib.hid hL
    have HR := Lib.hid (And.intro hlv (And.intro hinv (And.intro hov (And.intro hon hkp))))
    clear hlv hinv hov hon hkp hL
    by_cases hkn2 : k < n
    · by_cases hk3 : k < 2000
      · obtain ⟨hva, hcd, hd0, hd1⟩ := HD.out k (by omega)
        subst hva
        obtain ⟨dk, hdk⟩ : ∃ dk, dk = ds.getD k 0 := ⟨_, rfl⟩
        rw [← hdk] at hcd hd0 hd1
        have hcr : wr.cell? ⟨db, doff + k, none⟩ = some (.int .i64 dk) := by
          have hbl : db < w.heap.size := World.block_lt_of_cell? w ⟨db, doff + k, none⟩ hcd
          refine HR.out.2.2.2.2.cell (H1.out.cell hcd (fun h => h)) (fun h => ?_)
          have := H1.out.size
          have h' : w1.heap.size ≤ db := h
          omega
        clear hdk hcd
        by_cases hdrop : (0 ≤ dk ∧ 0 < L) ∨ L = 39
        · have hL0 : 0 < L := by omega
          have hLi : (0 : Int) < L := by omega
          by_cases a1 : 0 ≤ dk
          · clear hdrop
            obtain ⟨p0, p1⟩ := pickZ_lt (c := dk) hLi
            obtain ⟨i, hi⟩ : ∃ i : Nat, pickZ dk L = i := ⟨(pickZ dk L).toNat, by omega⟩
            have hiL : i < L := by omega
            have hiLi : (i : Int) < L := by omega
            obtain ⟨g, rfl⟩ : ∃ g, ga = some ⟨g, 0, none⟩ := by
              rcases HR.out.2.2.1.2 with ⟨_, e⟩ | ⟨g, _, _, e, _⟩
              · omega
              · injection e with e; exact ⟨g, e⟩
            obtain ⟨cur, hrg, hcs, hLc, hcm, hct, hgB⟩ := ownsRow_row HR.out.2.2.1
            have cg : wr.cell? ⟨g, i, none⟩ = some (.int .u64 (live.getD i 0)) := by
              have hh := HL.out
              rw [HR.out.2.2.1.cellAt i (by omega), getD_lt (by omega)]; simp [u64s, show i < live.length by omega]
            obtain ⟨p, hp⟩ : ∃ p, p = live.getD i 0 := ⟨_, rfl⟩
            rw [← hp] at cg
            have HPI := Lib.hid (And.intro hp hi)
            have HPK := Lib.hid (And.intro hcs (And.intro hcm (And.intro hct hrg)))
            have hpk := pick_any wr hd0 hd1 (n := L) hLi (by omega)
            rw [hi] at hpk
            have HPC := Lib.hid hpk
            clear hp hi hpk p0 p1 hcs hcm hct hrg
            go_wp2_with (first
              | (go_at_call 22; refine HPC.out.mono ?_; rintro e w' ⟨rfl, rfl⟩)
              | ((with_reducible apply wpList_buildS (built_drop _)); · rfl))
            obtain ⟨pd1, pd2⟩ := paths_drop HR.out.1.st.1 HR.out.2.1 (i := i) (by have := HL.out; omega)
            rw [← HPI.out.1] at pd1 pd2
            obtain ⟨pb0, pb1⟩ := paths_bound HR.out.1.st.1 HR.out.2.1 (p := p) (by rw [HPI.out.1, getD_lt (by have := HL.out; omega)]; exact List.getElem_mem _)
            have hnx : A.next < 18446744073709551615 := by have := HR.out.2.1.next; omega
            refine (do_any HR.out.1 (opeOk_drop pb0 (by omega)) (dataAt_nil _ _) hnx).mono ?_
            rintro e w3 ⟨he, own3, hlv3, hst3⟩
            rw [pd1] at he
            subst he
            have hfree : ∀ x, (Value.slice (some ⟨g, 0, none⟩) L gc).ownBlock = some x → own3 x = none := fun x hx => by
              have h1 := HR.out.2.2.2.1 x hx
              cases h3 : own3 x with
              | none => rfl
              | some r =>
                rcases hst3.fresh x (by rw [h3]; simp) with h | h
                · exact absurd h1 h
                · have := (HR.out.2.2.1.lt x hx).2; omega
            have hov3 := ownsRow_keep hst3.keep HR.out.2.2.1 (fun x hx h => h (HR.out.2.2.2.1 x hx))
            have hrg3 := hst3.keep.row HPK.out.2.2.2 (fun h => h (HR.out.2.2.2.1 g rfl))
            have hkp3 := HR.out.2.2.2.2.trans hst3.keep (fun b _ h => HR.out.1.ge b h)
            have H3 := Lib.hid (And.intro hlv3 (And.intro pd2 (And.intro hov3 (And.intro hfree (And.intro hkp3 hrg3)))))
            obtain ⟨i0, hi0, hz0, hz1, hz2⟩ := info_parts infoU
            have hcw : ∀ j u, ((u64s live).take i)[j]? = some u → w3.cell? ((⟨g, 0, none⟩ : Addr).add j) = some u := fun j u hj => by
              rw [addp, Nat.zero_add, cell_row hrg3, ← Array.getElem?_toList]
              rw [← HPK.out.2.2.1, List.take_take] at hj
              rw [List.getElem?_take] at hj
              split at hj
              · exact hj
              · cases hj
            have hbase : w1.heap.size ≤ w3.heap.size := hkp3.size
            have HC3 := Lib.hid hcw
            have hu1 : ∀ v ∈ (u64s live).take i, v.oneCell' = true := fun v hv => by
              have := List.mem_of_mem_take hv
              simp only [u64s, List.mem_map] at this
              obtain ⟨x, _, rfl⟩ := this
              rfl
            have HU1 := Lib.hid hu1
            have hl1 : ((u64s live).take i).length = i * 1 := by have := HL.out; simp [u64s]; omega
            have HL1 := Lib.hid hl1
            clear hlv3 hst3 hfree hov3 hrg3 hkp3 hcw hu1 hl1 pd1 pd2 cg hcr pb0 pb1
            have hu2 : ∀ v ∈ (u64s live).drop (i + 1), v.oneCell' = true := fun v hv => by
              have := List.mem_of_mem_drop hv
              simp only [u64s, List.mem_map] at this
              obtain ⟨x, _, rfl⟩ := this
              rfl
            have HU2 := Lib.hid hu2
            have hl2 : ((u64s live).drop (i + 1)).length = (L - (i + 1)) * 1 := by have := HL.out; simp [u64s]; omega
            have HL2 := Lib.hid hl2
            clear hu2 hl2
            by_cases hcapi : gc = i + 1
            · subst hcapi
              obtain rfl : L = i + 1 := by omega
              have e0 : (u64s live).drop (i + 1) = [] := List.length_eq_zero_iff.1 (by have := HL2.out; omega)
              go_wp2_with (first
                  | (at_builtin; refine wpList_append_own_at _ rfl (.tmp 74) (.tmp 77) 63 rfl w1.heap.size 30 i0 (.int .u64 0) 1 8 Tryd.underlying63 hi0 hz0 hz1 hz2 rfl (by decide) (.slice none 0 0) 0 [] rfl ⟨rfl, .inl ⟨rfl, rfl⟩⟩ ⟨g, 0, none⟩ i _ ((u64s live).take i) rfl HL1.out HC3.out HU1.out (by unfold maxLen; omega) (by omega) hbase ?_
                     intro v4 w4 hov4 hg4 _ hloc4
                     have kk4 : Keep w3 w4 (fun _ => False) := Keep.of_grown hg4 (fun _ h => by cases h)
                     simp only [Nat.zero_add, List.nil_append] at hov4
                     obtain ⟨qa, qc, rfl⟩ := ownsRow_slice hov4
                     have hz4 : w1.heap.size ≤ w4.heap.size := Nat.le_trans hbase kk4.size
                     have H4 := Lib.hid (And.intro kk4 (And.intro hloc4 hov4))
                     clear kk4 hloc4 hov4 hg4)
                  | (at_builtin; refine wpList_append_own_at _ rfl (.tmp 79) (.tmp 83) 63 rfl w1.heap.size 30 i0 (.int .u64 0) 1 8 Tryd.underlying63 hi0 hz0 hz1 hz2 rfl (by decide) (.slice qa i qc) i ((u64s live).take i) rfl H4.out.2.2 ⟨g, 0, none⟩ 0 _ [] rfl rfl (fun j u hj => by simp at hj) (fun v hv => by cases hv) (by unfold maxLen; omega) (by omega) hz4 ?_
                     intro v5 w5 hov5 hg5 _ hloc5
                     have kk5 : Keep w4 w5 (fun b => (Value.slice qa i qc).ownBlock = some b) := Keep.of_grown hg5 (fun _ h => h)
                     obtain ⟨ra, rc, rfl⟩ := ownsRow_slice hov5
                     have H5 := Lib.hid (And.intro kk5 (And.intro hloc5 hov5))
                     clear kk5 hloc5 hov5 hg5))
              go_roundw
              case rel =>
                refine ⟨k + 1, last, by go_num, rfl, by omega, by omega, ?_⟩
                have hi2 := H3.out.2.1
                exact pathsRel_end H3.out.1 hi2 H3.out.2.2.2.2.1 H4.out.1 H4.out.2.1 H5.out.1 H5.out.2.1 H5.out.2.2 (by have hh := HL.out; simp; omega) (by rw [u64s_append]; simp [u64s, List.map_take, List.map_drop] at e0 ⊢; exact e0)
              case measure => simp [intOf]; omega
            · have hc2 : ∀ j u, ((u64s live).drop (i + 1))[j]? = some u → w3.cell? ((⟨g, i + 1, none⟩ : Addr).add j) = some u := fun j u hj => by
                rw [addp, cell_row H3.out.2.2.2.2.2, ← Array.getElem?_toList]
                rw [← HPK.out.2.2.1, List.getElem?_drop, List.getElem?_take] at hj
                split at hj
                · exact hj
                · cases hj
              have HC4 := Lib.hid hc2
              clear hc2
              go_wp2_with (first
                  | (at_builtin; refine wpList_append_own_at _ rfl (.tmp 74) (.tmp 77) 63 rfl w1.heap.size 30 i0 (.int .u64 0) 1 8 Tryd.underlying63 hi0 hz0 hz1 hz2 rfl (by decide) (.slice none 0 0) 0 [] rfl ⟨rfl, .inl ⟨rfl, rfl⟩⟩ ⟨g, 0, none⟩ i _ ((u64s live).take i) rfl HL1.out HC3.out HU1.out (by unfold maxLen; omega) (by omega) hbase ?_
                     intro v4 w4 hov4 hg4 _ hloc4
                     have kk4 : Keep w3 w4 (fun _ => False) := Keep.of_grown hg4 (fun _ h => by cases h)
                     simp only [Nat.zero_add, List.nil_append] at hov4
                     obtain ⟨qa, qc, rfl⟩ := ownsRow_slice hov4
                     have hz4 : w1.heap.size ≤ w4.heap.size := Nat.le_trans hbase kk4.size
                     have H4 := Lib.hid (And.intro kk4 (And.intro hloc4 hov4))
                     clear kk4 hloc4 hov4 hg4)
                  | (at_builtin; refine wpList_append_own_at _ rfl (.tmp 79) (.tmp 83) 63 rfl w1.heap.size 30 i0 (.int .u64 0) 1 8 Tryd.underlying63 hi0 hz0 hz1 hz2 rfl (by decide) (.slice qa i qc) i ((u64s live).take i) rfl H4.out.2.2 ⟨g, i + 1, none⟩ (L - (i + 1)) _ ((u64s live).drop (i + 1)) rfl HL2.out (fun j u hj => H4.out.1.cellA (HC4.out j u hj)) HU2.out (by unfold maxLen; omega) (by omega) hz4 ?_
                     intro v5 w5 hov5 hg5 _ hloc5
                     have kk5 : Keep w4 w5 (fun b => (Value.slice qa i qc).ownBlock = some b) := Keep.of_grown hg5 (fun _ h => h)
                     obtain ⟨ra, rc, rfl⟩ := ownsRow_slice hov5
                     have H5 := Lib.hid (And.intro kk5 (And.intro hloc5 hov5))
                     clear kk5 hloc5 hov5 hg5))
              go_roundw
              case rel =>
                refine ⟨k + 1, last, by go_num, rfl, by omega, by omega, ?_⟩
                have hi2 := H3.out.2.1
                exact pathsRel_end H3.out.1 hi2 H3.out.2.2.2.2.1 H4.out.1 H4.out.2.1 H5.out.1 H5.out.2.1 H5.out.2.2 (by have hh := HL.out; simp; omega) (by rw [u64s_append]; simp [u64s, List.map_take, List.map_drop])
              case measure => simp [intOf]; omega
          · have a3 : ((L : Int) == 39) = true := by have h' : L = 39 := hdrop.resolve_left (fun h => a1 h.1); rw [h']; rfl
            clear hdrop
            obtain ⟨p0, p1⟩ := pickZ_lt (c := dk) hLi
            obtain ⟨i, hi⟩ : ∃ i : Nat, pickZ dk L = i := ⟨(pickZ dk L).toNat, by omega⟩
            have hiL : i < L := by omega
            have hiLi : (i : Int) < L := by omega
            obtain ⟨g, rfl⟩ : ∃ g, ga = some ⟨g, 0, none⟩ := by
              rcases HR.out.2.2.1.2 with ⟨_, e⟩ | ⟨g, _, _, e, _⟩
              · omega
              · injection e with e; exact ⟨g, e⟩
            obtain ⟨cur, hrg, hcs, hLc, hcm, hct, hgB⟩ := ownsRow_row HR.out.2.2.1
            have cg : wr.cell? ⟨g, i, none⟩ = some (.int .u64 (live.getD i 0)) := by
              have hh := HL.out
              rw [HR.out.2.2.1.cellAt i (by omega), getD_lt (by omega)]; simp [u64s, show i < live.length by omega]
            obtain ⟨p, hp⟩ : ∃ p, p = live.getD i 0 := ⟨_, rfl⟩
            rw [← hp] at cg
            have HPI := Lib.hid (And.intro hp hi)
            have HPK := Lib.hid (And.intro hcs (And.intro hcm (And.intro hct hrg)))
            have hpk := pick_any wr hd0 hd1 (n := L) hLi (by omega)
            rw [hi] at hpk
            have HPC := Lib.hid hpk
            clear hp hi hpk p0 p1 hcs hcm hct hrg
            go_wp2_with (first
              | (go_at_call 22; refine HPC.out.mono ?_; rintro e w' ⟨rfl, rfl⟩)
              | ((with_reducible apply wpList_buildS (built_drop _)); · rfl))
            obtain ⟨pd1, pd2⟩ := paths_drop HR.out.1.st.1 HR.out.2.1 (i := i) (by have := HL.out; omega)
            rw [← HPI.out.1] at pd1 pd2
            obtain ⟨pb0, pb1⟩ := paths_bound HR.out.1.st.1 HR.out.2.1 (p := p) (by rw [HPI.out.1, getD_lt (by have := HL.out; omega)]; exact List.getElem_mem _)
            have hnx : A.next < 18446744073709551615 := by have := HR.out.2.1.next; omega
            refine (do_any HR.out.1 (opeOk_drop pb0 (by omega)) (dataAt_nil _ _) hnx).mono ?_
            rintro e w3 ⟨he, own3, hlv3, hst3⟩
            rw [pd1] at he
            subst he
            have hfree : ∀ x, (Value.slice (some ⟨g, 0, none⟩) L gc).ownBlock = some x → own3 x = none := fun x hx => by
              have h1 := HR.out.2.2.2.1 x hx
              cases h3 : own3 x with
              | none => rfl
              | some r =>
                rcases hst3.fresh x (by rw [h3]; simp) with h | h
                · exact absurd h1 h
                · have := (HR.out.2.2.1.lt x hx).2; omega
            have hov3 := ownsRow_keep hst3.keep HR.out.2.2.1 (fun x hx h => h (HR.out.2.2.2.1 x hx))
            have hrg3 := hst3.keep.row HPK.out.2.2.2 (fun h => h (HR.out.2.2.2.1 g rfl))
            have hkp3 := HR.out.2.2.2.2.trans hst3.keep (fun b _ h => HR.out.1.ge b h)
            have H3 := Lib.hid (And.intro hlv3 (And.intro pd2 (And.intro hov3 (And.intro hfree (And.intro hkp3 hrg3)))))
            obtain ⟨i0, hi0, hz0, hz1, hz2⟩ := info_parts infoU
            have hcw : ∀ j u, ((u64s live).take i)[j]? = some u → w3.cell? ((⟨g, 0, none⟩ : Addr).add j) = some u := fun j u hj => by
              rw [addp, Nat.zero_add, cell_row hrg3, ← Array.getElem?_toList]
              rw [← HPK.out.2.2.1, List.take_take] at hj
              rw [List.getElem?_take] at hj
              split at hj
              · exact hj
              · cases hj
            have hbase : w1.heap.size ≤ w3.heap.size := hkp3.size
            have HC3 := Lib.hid hcw
            have hu1 : ∀ v ∈ (u64s live).take i, v.oneCell' = true := fun v hv => by
              have := List.mem_of_mem_take hv
              simp only [u64s, List.mem_map] at this
              obtain ⟨x, _, rfl⟩ := this
              rfl
            have HU1 := Lib.hid hu1
            have hl1 : ((u64s live).take i).length = i * 1 := by have := HL.out; simp [u64s]; omega
            have HL1 := Lib.hid hl1
            clear hlv3 hst3 hfree hov3 hrg3 hkp3 hcw hu1 hl1 pd1 pd2 cg hcr pb0 pb1
            have hu2 : ∀ v ∈ (u64s live).drop (i + 1), v.oneCell' = true := fun v hv => by
              have := List.mem_of_mem_drop hv
              simp only [u64s, List.mem_map] at this
              obtain ⟨x, _, rfl⟩ := this
              rfl
            have HU2 := Lib.hid hu2
            have hl2 : ((u64s live).drop (i + 1)).length = (L - (i + 1)) * 1 := by have := HL.out; simp [u64s]; omega
            have HL2 := Lib.hid hl2
            clear hu2 hl2
            by_cases hcapi : gc = i + 1
            · subst hcapi
              obtain rfl : L = i + 1 := by omega
              have e0 : (u64s live).drop (i + 1) = [] := List.length_eq_zero_iff.1 (by have := HL2.out; omega)
              go_wp2_with (first
                  | (at_builtin; refine wpList_append_own_at _ rfl (.tmp 74) (.tmp 77) 63 rfl w1.heap.size 30 i0 (.int .u64 0) 1 8 Tryd.underlying63 hi0 hz0 hz1 hz2 rfl (by decide) (.slice none 0 0) 0 [] rfl ⟨rfl, .inl ⟨rfl, rfl⟩⟩ ⟨g, 0, none⟩ i _ ((u64s live).take i) rfl HL1.out HC3.out HU1.out (by unfold maxLen; omega) (by omega) hbase ?_
                     intro v4 w4 hov4 hg4 _ hloc4
                     have kk4 : Keep w3 w4 (fun _ => False) := Keep.of_grown hg4 (fun _ h => by cases h)
                     simp only [Nat.zero_add, List.nil_append] at hov4
                     obtain ⟨qa, qc, rfl⟩ := ownsRow_slice hov4
                     have hz4 : w1.heap.size ≤ w4.heap.size := Nat.le_trans hbase kk4.size
                     have H4 := Lib.hid (And.intro kk4 (And.intro hloc4 hov4))
                     clear kk4 hloc4 hov4 hg4)
                  | (at_builtin; refine wpList_append_own_at _ rfl (.tmp 79) (.tmp 83) 63 rfl w1.heap.size 30 i0 (.int .u64 0) 1 8 Tryd.underlying63 hi0 hz0 hz1 hz2 rfl (by decide) (.slice qa i qc) i ((u64s live).take i) rfl H4.out.2.2 ⟨g, 0, none⟩ 0 _ [] rfl rfl (fun j u hj => by simp at hj) (fun v hv => by cases hv) (by unfold maxLen; omega) (by omega) hz4 ?_
                     intro v5 w5 hov5 hg5 _ hloc5
                     have kk5 : Keep w4 w5 (fun b => (Value.slice qa i qc).ownBlock = some b) := Keep.of_grown hg5 (fun _ h => h)
                     obtain ⟨ra, rc, rfl⟩ := ownsRow_slice hov5
                     have H5 := Lib.hid (And.intro kk5 (And.intro hloc5 hov5))
                     clear kk5 hloc5 hov5 hg5))
              go_roundw
              case rel =>
                refine ⟨k + 1, last, by go_num, rfl, by omega, by omega, ?_⟩
                have hi2 := H3.out.2.1
                exact pathsRel_end H3.out.1 hi2 H3.out.2.2.2.2.1 H4.out.1 H4.out.2.1 H5.out.1 H5.out.2.1 H5.out.2.2 (by have hh := HL.out; simp; omega) (by rw [u64s_append]; simp [u64s, List.map_take, List.map_drop] at e0 ⊢; exact e0)
              case measure => simp [intOf]; omega
            · have hc2 : ∀ j u, ((u64s live).drop (i + 1))[j]? = some u → w3.cell? ((⟨g, i + 1, none⟩ : Addr).add j) = some u := fun j u hj => by
                rw [addp, cell_row H3.out.2.2.2.2.2, ← Array.getElem?_toList]
                rw [← HPK.out.2.2.1, List.getElem?_drop, List.getElem?_take] at hj
                split at hj
                · exact hj
                · cases hj
              have HC4 := Lib.hid hc2
              clear hc2
              go_wp2_with (first
                  | (at_builtin; refine wpList_append_own_at _ rfl (.tmp 74) (.tmp 77) 63 rfl w1.heap.size 30 i0 (.int .u64 0) 1 8 Tryd.underlying63 hi0 hz0 hz1 hz2 rfl (by decide) (.slice none 0 0) 0 [] rfl ⟨rfl, .inl ⟨rfl, rfl⟩⟩ ⟨g, 0, none⟩ i _ ((u64s live).take i) rfl HL1.out HC3.out HU1.out (by unfold maxLen; omega) (by omega) hbase ?_
                     intro v4 w4 hov4 hg4 _ hloc4
                     have kk4 : Keep w3 w4 (fun _ => False) := Keep.of_grown hg4 (fun _ h => by cases h)
                     simp only [Nat.zero_add, List.nil_append] at hov4
                     obtain ⟨qa, qc, rfl⟩ := ownsRow_slice hov4
                     have hz4 : w1.heap.size ≤ w4.heap.size := Nat.le_trans hbase kk4.size
                     have H4 := Lib.hid (And.intro kk4 (And.intro hloc4 hov4))
                     clear kk4 hloc4 hov4 hg4)
                  | (at_builtin; refine wpList_append_own_at _ rfl (.tmp 79) (.tmp 83) 63 rfl w1.heap.size 30 i0 (.int .u64 0) 1 8 Tryd.underlying63 hi0 hz0 hz1 hz2 rfl (by decide) (.slice qa i qc) i ((u64s live).take i) rfl H4.out.2.2 ⟨g, i + 1, none⟩ (L - (i + 1)) _ ((u64s live).drop (i + 1)) rfl HL2.out (fun j u hj => H4.out.1.cellA (HC4.out j u hj)) HU2.out (by unfold maxLen; omega) (by omega) hz4 ?_
                     intro v5 w5 hov5 hg5 _ hloc5
                     have kk5 : Keep w4 w5 (fun b => (Value.slice qa i qc).ownBlock = some b) := Keep.of_grown hg5 (fun _ h => h)
                     obtain ⟨ra, rc, rfl⟩ := ownsRow_slice hov5
                     have H5 := Lib.hid (And.intro kk5 (And.intro hloc5 hov5))
                     clear kk5 hloc5 hov5 hg5))
              go_roundw
              case rel =>
                refine ⟨k + 1, last, by go_num, rfl, by omega, by omega, ?_⟩
                have hi2 := H3.out.2.1
                exact pathsRel_end H3.out.1 hi2 H3.out.2.2.2.2.1 H4.out.1 H4.out.2.1 H5.out.1 H5.out.2.1 H5.out.2.2 (by have hh := HL.out; simp; omega) (by rw [u64s_append]; simp [u64s, List.map_take, List.map_drop])
              case measure => simp [intOf]; omega
        · have hL39 : L ≠ 39 := fun h => hdrop (.inr h)
          by_cases a1 : 0 ≤ dk
          · have hL0 : ¬ 0 < L := fun h => hdrop (.inl ⟨a1, h⟩)
            have a2 : decide ((0 : Int) < L) = false := by rw [decide_eq_false_iff_not]; omega
            clear hdrop
            have hu8 : ∀ x : Int, IntKind.u8.wrap (97 + x % 26) = 97 + x % 26 := fun x => by
              simp [IntKind.wrap, IntKind.bits, IntKind.signed]; omega
            have a4 : ((L : Int) == 39) = false := by rw [beq_eq_false_iff_ne]; omega
            go_wp2_with fail
            refine (next_any HR.out.1.st).mono ?_
            rintro e w3 ⟨rfl, k3⟩
            have hlv3 := HR.out.1.none k3
            have hkp3 := HR.out.2.2.2.2.trans k3 (fun _ _ h => h.elim)
            have hov3 := ownsRow_keep k3 HR.out.2.2.1 (fun _ _ h => h)
            have H3 := Lib.hid (And.intro hlv3 (And.intro hkp3 hov3))
            clear k3 hlv3 hkp3 hov3 hcr
            have hcv := conv_nm3 k
            obtain ⟨nm, hnm⟩ : ∃ nm, nm = nm3 k := ⟨_, rfl⟩
            rw [← hnm] at hcv
            have HNM := Lib.hid hnm
            clear hnm
            go_wp2_with fail
            have kA : Keep w3 (w3.alloc (.cells #[.int .u8 (97 + (k : Int) % 26), .int .u8 (97 + (k : Int) / 26 % 26), .int .u8 (97 + (k : Int) / 676 % 26)] 5)) (fun _ => False) := Keep.alloc _ _ _
            refine (mak_any _ 1 nm 384).mono ?_
            rintro e w4 ⟨rfl, k4⟩
            have k34 := kA.trans k4 (fun _ _ h => h)
            have hlv4 := H3.out.1.none k34
            have hkp4 := H3.out.2.1.trans k34 (fun _ _ h => h.elim)
            have hov4 := ownsRow_keep k34 H3.out.2.2 (fun _ _ h => h)
            obtain ⟨pm1, pm2⟩ := paths_make HR.out.1.st.1 HR.out.2.1 hk3 (by rw [← HL.out]; exact hL39)
            have hnx : A.next < 18446744073709551615 := by have := HR.out.2.1.next; omega
            have hlast : last < A.next := HR.out.2.1.lastn
            have H4 := Lib.hid (And.intro hlv4 (And.intro hkp4 hov4))
            have HPM := Lib.hid (And.intro pm1 pm2)
            clear kA k4 k34 hlv4 hkp4 hov4 pm1 pm2 hcv hu8
            go_wp2_with fail
            refine (do_any H4.out.1 (o := makOpe 1 nm 384) (opeOk_mak (by decide) (by decide) (by rw [HNM.out, nm3_size]; decide) (by decide) (by decide)) (dataAt_nil _ _) hnx).mono ?_
            rintro e w5 ⟨he, own5, hlv5, hst5⟩
            rw [HNM.out, HPM.out.1] at he
            subst he
            rw [HNM.out] at hlv5
            have hov5 := ownsRow_keep hst5.keep H4.out.2.2 (fun x hx h => h (HR.out.2.2.2.1 x hx))
            have hfree : ∀ x, (Value.slice ga L gc).ownBlock = some x → own5 x = none ∧ w1.heap.size ≤ x := fun x hx => by
              have h1 := HR.out.2.2.2.1 x hx
              refine ⟨?_, (HR.out.2.2.1.lt x hx).1⟩
              cases h3 : own5 x with
              | none => rfl
              | some r =>
                rcases hst5.fresh x (by rw [h3]; simp) with h | h
                · exact absurd h1 h
                · have := (H4.out.2.2.lt x hx).2; omega
            have hkp5 := H4.out.2.1.trans hst5.keep (fun b _ h => H4.out.1.ge b h)
            have H5 := Lib.hid (And.intro hlv5 (And.intro hkp5 hfree))
            have hb5 : w1.heap.size ≤ w5.heap.size := hkp5.size
            obtain ⟨i0, hi0, hz0, hz1, hz2⟩ := info_parts infoU
            obtain ⟨nx, hnxe⟩ : ∃ nx, nx = A.next := ⟨_, rfl⟩
            rw [← hnxe] at hlast ⊢
            have HNX := Lib.hid hnxe
            have hlt2 : decide (nx ≤ last) = false := by rw [decide_eq_false_iff_not]; omega
            clear hst5 hlv5 hfree hkp5 hnxe hnx
            go_wp2_with (first
                | (at_builtin; refine wpList_append_own_at _ rfl (.tmp 124) (.tmp 126) 63 rfl w1.heap.size 30 i0 (.int .u64 0) 1 8 Tryd.underlying63 hi0 hz0 hz1 hz2 rfl (by decide) (.slice ga L gc) L (u64s live) rfl (hov5.alloc _) ⟨w5.heap.size, 0, none⟩ 1 1 [.int .u64 nx] rfl rfl (cell_one_new _ _ _) (by simp [Value.oneCell']) (by unfold maxLen; omega) (by omega) (by rw [World.size_alloc]; omega) ?_
                   intro v6 w6 hov6 hg6 _ hloc6
                   have kk6 : Keep w5 w6 (fun b => (Value.slice ga L gc).ownBlock = some b) := (Keep.of_grown hg6 (fun _ h => h)).after (fun _ _ h => h) (Keep.alloc w5 _ _)
                   obtain ⟨ra, rc, rfl⟩ := ownsRow_slice hov6
                   have H6 := Lib.hid (And.intro kk6 (And.intro hloc6 hov6))
                   clear kk6 hloc6 hov6 hg6))
            go_roundw
            case rel =>
              refine ⟨k + 1, nx, by go_num, rfl, by omega, by omega, ?_⟩
              obtain ⟨j1, j2, j3⟩ := H6.out
              have hi2 := HPM.out.2
              rw [← HNX.out] at hi2
              refine pathsRel_make H5.out.1 hi2 H5.out.2.1 H5.out.2.2 j1 (j2.elim .inl (fun h => .inr ⟨_, h, by rw [World.size_alloc]; omega⟩)) j3 (by have hh := HL.out; simp; omega) (by rw [u64s_append]; rfl)
            case measure => simp [intOf]; omega
          · clear hdrop
            have hu8 : ∀ x : Int, IntKind.u8.wrap (97 + x % 26) = 97 + x % 26 := fun x => by
              simp [IntKind.wrap, IntKind.bits, IntKind.signed]; omega
            have a4 : ((L : Int) == 39) = false := by rw [beq_eq_false_iff_ne]; omega
            go_wp2_with fail
            refine (next_any HR.out.1.st).mono ?_
            rintro e w3 ⟨rfl, k3⟩
            have hlv3 := HR.out.1.none k3
            have hkp3 := HR.out.2.2.2.2.trans k3 (fun _ _ h => h.elim)
            have hov3 := ownsRow_keep k3 HR.out.2.2.1 (fun _ _ h => h)
            have H3 := Lib.hid (And.intro hlv3 (And.intro hkp3 hov3))
            clear k3 hlv3 hkp3 hov3 hcr
            have hcv := conv_nm3 k
            obtain ⟨nm, hnm⟩ : ∃ nm, nm = nm3 k := ⟨_, rfl⟩
            rw [← hnm] at hcv
            have HNM := Lib.hid hnm
            clear hnm
            go_wp2_with fail
            have kA : Keep w3 (w3.alloc (.cells #[.int .u8 (97 + (k : Int) % 26), .int .u8 (97 + (k : Int) / 26 % 26), .int .u8 (97 + (k : Int) / 676 % 26)] 5)) (fun _ => False) := Keep.alloc _ _ _
            refine (mak_any _ 1 nm 384).mono ?_
            rintro e w4 ⟨rfl, k4⟩
            have k34 := kA.trans k4 (fun _ _ h => h)
            have hlv4 := H3.out.1.none k34
            have hkp4 := H3.out.2.1.trans k34 (fun _ _ h => h.elim)
            have hov4 := ownsRow_keep k34 H3.out.2.2 (fun _ _ h => h)
            obtain ⟨pm1, pm2⟩ := paths_make HR.out.1.st.1 HR.out.2.1 hk3 (by rw [← HL.out]; exact hL39)
            have hnx : A.next < 18446744073709551615 := by have := HR.out.2.1.next; omega
            have hlast : last < A.next := HR.out.2.1.lastn
            have H4 := Lib.hid (And.intro hlv4 (And.intro hkp4 hov4))
            have HPM := Lib.hid (And.intro pm1 pm2)
            clear kA k4 k34 hlv4 hkp4 hov4 pm1 pm2 hcv hu8
            go_wp2_with fail
            refine (do_any H4.out.1 (o := makOpe 1 nm 384) (opeOk_mak (by decide) (by decide) (by rw [HNM.out, nm3_size]; decide) (by decide) (by decide)) (dataAt_nil _ _) hnx).mono ?_
            rintro e w5 ⟨he, own5, hlv5, hst5⟩
            rw [HNM.out, HPM.out.1] at he
            subst he
            rw [HNM.out] at hlv5
            have hov5 := ownsRow_keep hst5.keep H4.out.2.2 (fun x hx h => h (HR.out.2.2.2.1 x hx))
            have hfree : ∀ x, (Value.slice ga L gc).ownBlock = some x → own5 x = none ∧ w1.heap.size ≤ x := fun x hx => by
              have h1 := HR.out.2.2.2.1 x hx
              refine ⟨?_, (HR.out.2.2.1.lt x hx).1⟩
              cases h3 : own5 x with
              | none => rfl
              | some r =>
                rcases hst5.fresh x (by rw [h3]; simp) with h | h
                · exact absurd h1 h
                · have := (H4.out.2.2.lt x hx).2; omega
            have hkp5 := H4.out.2.1.trans hst5.keep (fun b _ h => H4.out.1.ge b h)
            have H5 := Lib.hid (And.intro hlv5 (And.intro hkp5 hfree))
            have hb5 : w1.heap.size ≤ w5.heap.size := hkp5.size
            obtain ⟨i0, hi0, hz0, hz1, hz2⟩ := info_parts infoU
            obtain ⟨nx, hnxe⟩ : ∃ nx, nx = A.next := ⟨_, rfl⟩
            rw [← hnxe] at hlast ⊢
            have HNX := Lib.hid hnxe
            have hlt2 : decide (nx ≤ last) = false := by rw [decide_eq_false_iff_not]; omega
            clear hst5 hlv5 hfree hkp5 hnxe hnx
            go_wp2_with (first
                | (at_builtin; refine wpList_append_own_at _ rfl (.tmp 124) (.tmp 126) 63 rfl w1.heap.size 30 i0 (.int .u64 0) 1 8 Tryd.underlying63 hi0 hz0 hz1 hz2 rfl (by decide) (.slice ga L gc) L (u64s live) rfl (hov5.alloc _) ⟨w5.heap.size, 0, none⟩ 1 1 [.int .u64 nx] rfl rfl (cell_one_new _ _ _) (by simp [Value.oneCell']) (by unfold maxLen; omega) (by omega) (by rw [World.size_alloc]; omega) ?_
                   intro v6 w6 hov6 hg6 _ hloc6
                   have kk6 : Keep w5 w6 (fun b => (Value.slice ga L gc).ownBlock = some b) := (Keep.of_grown hg6 (fun _ h => h)).after (fun _ _ h => h) (Keep.alloc w5 _ _)
                   obtain ⟨ra, rc, rfl⟩ := ownsRow_slice hov6
                   have H6 := Lib.hid (And.intro kk6 (And.intro hloc6 hov6))
                   clear kk6 hloc6 hov6 hg6))
            go_roundw
            case rel =>
              refine ⟨k + 1, nx, by go_num, rfl, by omega, by omega, ?_⟩
              obtain ⟨j1, j2, j3⟩ := H6.out
              have hi2 := HPM.out.2
              rw [← HNX.out] at hi2
              refine pathsRel_make H5.out.1 hi2 H5.out.2.1 H5.out.2.2 j1 (j2.elim .inl (fun h => .inr ⟨_, h, by rw [World.size_alloc]; omega⟩)) j3 (by have hh := HL.out; simp; omega) (by rw [u64s_append]; rfl)
            case measure => simp [intOf]; omega
      · have hk4 : ¬ (k : Int) < 2000 := by omega
        have hr2 : live.Pairwise (· < ·) := HR.out.2.1.kids ▸ kids_rise HR.out.1.st.1 1
        have hpos : ∀ p ∈ live, 0 < p := fun p hp => by
          obtain ⟨e, he, hep, _⟩ := paths_mem HR.out.2.1 hp
          have := (HR.out.1.st.1.ok e he).path0
          omega
        have HRP := Lib.hid (And.intro hr2 hpos)
        clear hr2 hpos
        go_wp2_with fail
        go_loopw [16, 17] (fun a i wx => ∃ j : Nat, j ≤ L ∧ i = .int .i64 j ∧ a = .int .u64 (prevOf live j) ∧ Keep wr wx (fun _ => False)) (fun _ i _ => L - (intOf i).toNat)
        case atStart => exact ⟨0, Nat.zero_le _, rfl, rfl, Keep.refl _ _⟩
        case round =>
          obtain ⟨j, hjL, rfl, rfl, hkj⟩ := hrel
          have hab := abv_prev HRP.out.1 HRP.out.2 (j := j) (by have := HL.out; omega)
          have hov := ownsRow_keep hkj HR.out.2.2.1 (fun _ _ h => h)
          have hlv := HR.out.1.none hkj
          have HJ := Lib.hid (And.intro hkj (And.intro hov (And.intro hlv hab)))
          obtain ⟨pv, hpv⟩ : ∃ pv, pv = prevOf live j := ⟨_, rfl⟩
          rw [← hpv] at hab ⊢
          clear hab hov hlv hkj
          by_cases hjn : j < L
          · have hv : afterV A.l 1 pv = .tuple #[.int .u64 (live.getD j 0), .bool true] := by
              have hh := HL.out
              unfold afterV
              rw [hpv, HR.out.2.1.kids, HJ.out.2.2.2, List.getElem?_eq_getElem (by omega), getD_lt (by omega)]; rfl
            have HV := Lib.hid hv
            have hjni : (j : Int) < L := by omega
            obtain ⟨g, rfl⟩ : ∃ g, ga = some ⟨g, 0, none⟩ := by
              rcases HR.out.2.2.1.2 with ⟨_, e⟩ | ⟨g, _, _, e, _⟩
              · omega
              · injection e with e; exact ⟨g, e⟩
            have HPV := Lib.hid hpv
            clear hv hpv
            go_wp2_with fail
            refine (after_any HJ.out.2.2.1.st (p := 1) (last := pv) (by decide) (by decide)).mono ?_
            rintro e w5 ⟨rfl, k5⟩
            rw [HV.out]
            have cg : w5.cell? ⟨g, j, none⟩ = some (.int .u64 (live.getD j 0)) := by
              have hh := HL.out
              have hov5 := ownsRow_keep k5 HJ.out.2.1 (fun _ _ h => h)
              rw [hov5.cellAt j (by omega), getD_lt (by omega)]; simp [u64s, show j < live.length by omega]
            obtain ⟨y, hy⟩ : ∃ y, y = live.getD j 0 := ⟨_, rfl⟩
            rw [← hy] at cg ⊢
            have HY := Lib.hid hy
            have HE := Lib.hid (HJ.out.1.trans k5 (fun _ _ h => h))
            clear hy k5
            go_wp2_with fail
            go_roundw
            case rel =>
              refine ⟨j + 1, by omega, by go_num, ?_, HE.out⟩
              have e : prevOf live (j + 1) = live.getD j 0 := if_neg (by omega)
              rw [e, HY.out]
            case measure => simp [intOf]; omega
          · obtain rfl : j = L := by omega
            have hv : afterV A.l 1 pv = .tuple #[.int .u64 0, .bool false] := by
              have hh := HL.out
              unfold afterV
              rw [hpv, HR.out.2.1.kids, HJ.out.2.2.2, List.getElem?_eq_none (by omega)]; rfl
            have HV := Lib.hid hv
            have HPV := Lib.hid hpv
            clear hv hpv
            go_wp2_with fail
            refine (after_any HJ.out.2.2.1.st (p := 1) (last := pv) (by decide) (by decide)).mono ?_
            rintro e w5 ⟨rfl, k5⟩
            rw [HV.out]
            have HE := Lib.hid ((HJ.out.1.trans k5 (fun _ _ h => h)))
            clear k5
            go_wp2_with fail
            go_ret
            exact ⟨rfl, (H1.out.trans (HR.out.2.2.2.2.trans HE.out (fun _ _ h => h.elim)) (fun b hb h => by have hb' : b < w.heap.size := hb; have := H1.out.size; have h' : w1.heap.size ≤ b := h; omega))⟩
    · have hk4 : ¬ (k : Int) < n := by omega
      have hr2 : live.Pairwise (· < ·) := HR.out.2.1.kids ▸ kids_rise HR.out.1.st.1 1
      have hpos : ∀ p ∈ live, 0 < p := fun p hp => by
        obtain ⟨e, he, hep, _⟩ := paths_mem HR.out.2.1 hp
        have := (HR.out.1.st.1.ok e he).path0
        omega
      have HRP := Lib.hid (And.intro hr2 hpos)
      clear hr2 hpos
      go_wp2_with fail
      go_loopw [16, 17] (fun a i wx => ∃ j : Nat, j ≤ L ∧ i = .int .i64 j ∧ a = .int .u64 (prevOf live j) ∧ Keep wr wx (fun _ => False)) (fun _ i _ => L - (intOf i).toNat)
      case atStart => exact ⟨0, Nat.zero_le _, rfl, rfl, Keep.refl _ _⟩
      case round =>
        obtain ⟨j, hjL, rfl, rfl, hkj⟩ := hrel
        have hab := abv_prev HRP.out.1 HRP.out.2 (j := j) (by have := HL.out; omega)
        have hov := ownsRow_keep hkj HR.out.2.2.1 (fun _ _ h => h)
        have hlv := HR.out.1.none hkj
        have HJ := Lib.hid (And.intro hkj (And.intro hov (And.intro hlv hab)))
        obtain ⟨pv, hpv⟩ : ∃ pv, pv = prevOf live j := ⟨_, rfl⟩
        rw [← hpv] at hab ⊢
        clear hab hov hlv hkj
        by_cases hjn : j < L
        · have hv : afterV A.l 1 pv = .tuple #[.int .u64 (live.getD j 0), .bool true] := by
            have hh := HL.out
            unfold afterV
            rw [hpv, HR.out.2.1.kids, HJ.out.2.2.2, List.getElem?_eq_getElem (by omega), getD_lt (by omega)]; rfl
          have HV := Lib.hid hv
          have hjni : (j : Int) < L := by omega
          obtain ⟨g, rfl⟩ : ∃ g, ga = some ⟨g, 0, none⟩ := by
            rcases HR.out.2.2.1.2 with ⟨_, e⟩ | ⟨g, _, _, e, _⟩
            · omega
            · injection e with e; exact ⟨g, e⟩
          have HPV := Lib.hid hpv
          clear hv hpv
          go_wp2_with fail
          refine (after_any HJ.out.2.2.1.st (p := 1) (last := pv) (by decide) (by decide)).mono ?_
          rintro e w5 ⟨rfl, k5⟩
          rw [HV.out]
          have cg : w5.cell? ⟨g, j, none⟩ = some (.int .u64 (live.getD j 0)) := by
            have hh := HL.out
            have hov5 := ownsRow_keep k5 HJ.out.2.1 (fun _ _ h => h)
            rw [hov5.cellAt j (by omega), getD_lt (by omega)]; simp [u64s, show j < live.length by omega]
          obtain ⟨y, hy⟩ : ∃ y, y = live.getD j 0 := ⟨_, rfl⟩
          rw [← hy] at cg ⊢
          have HY := Lib.hid hy
          have HE := Lib.hid (HJ.out.1.trans k5 (fun _ _ h => h))
          clear hy k5
          go_wp2_with fail
          go_roundw
          case rel =>
            refine ⟨j + 1, by omega, by go_num, ?_, HE.out⟩
            have e : prevOf live (j + 1) = live.getD j 0 := if_neg (by omega)
            rw [e, HY.out]
          case measure => simp [intOf]; omega
        · obtain rfl : j = L := by omega
          have hv : afterV A.l 1 pv = .tuple #[.int .u64 0, .bool false] := by
            have hh := HL.out
            unfold afterV
            rw [hpv, HR.out.2.1.kids, HJ.out.2.2.2, List.getElem?_eq_none (by omega)]; rfl
          have HV := Lib.hid hv
          have HPV := Lib.hid hpv
          clear hv hpv
          go_wp2_with fail
          refine (after_any HJ.out.2.2.1.st (p := 1) (last := pv) (by decide) (by decide)).mono ?_
          rintro e w5 ⟨rfl, k5⟩
          rw [HV.out]
          have HE := Lib.hid ((HJ.out.1.trans k5 (fun _ _ h => h)))
          clear k5
          go_wp2_with fail
          go_ret
          exact ⟨rfl, (H1.out.trans (HR.out.2.2.2.2.trans HE.out (fun _ _ h => h.elim)) (fun b hb h => by have hb' : b < w.heap.size := hb; have := H1.out.size; have h' : w1.heap.size ≤ b := h; omega))⟩
end Go.Proofs.YtfbcdhcgmncklaaDoor
