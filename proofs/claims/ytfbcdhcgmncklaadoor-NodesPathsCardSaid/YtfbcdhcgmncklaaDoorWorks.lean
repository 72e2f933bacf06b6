/- The law's own check, works. -/
import Derived.Test.YtfbcdhcgmncklaaDoorLaw
import Derived.Laws.BytesArg
namespace Go.Proofs.YtfbcdhcgmncklaaDoor
open Go Go.RowKit Go.Nd Go.Maps Go.MuLone Go.RwLone
set_option maxRecDepth 100000

/-- A store that lies beyond block B, and the library's tables below it. -/
structure Live (B : Nat) (w : World) (own : Own) (s : Nat) (A : St) : Prop where
  st : Store w own s A
  gb : GB B w
  ge : ∀ b, own b ≠ none → B ≤ b
theorem Live.keep {B : Nat} {w w' : World} {own : Own} {s : Nat} {A : St} (h : Live B w own s A) {S : Nat → Prop} (k : Keep w w' S) (hS : ∀ b, S b → own b = none ∧ B ≤ b) : Live B w' own s A :=
  ⟨h.st.keep k (fun b hb hs => hb (hS b hs).1), h.gb.keep k (fun b hb => (hS b hb).2), h.ge⟩
theorem Live.none {B : Nat} {w w' : World} {own : Own} {s : Nat} {A : St} (h : Live B w own s A) (k : Keep w w' (fun _ => False)) : Live B w' own s A := h.keep k (fun _ h => h.elim)
theorem Live.size {B : Nat} {w : World} {own : Own} {s : Nat} {A : St} (h : Live B w own s A) : B ≤ w.heap.size := h.gb.b3
theorem Live.step {B : Nat} {w w' : World} {own own' : Own} {s : Nat} {A A' : St} (h : Live B w own s A) (h1 : Store w' own' s A') (h2 : Steps w w' own own') : Live B w' own' s A' :=
  ⟨h1, h.gb.keep h2.keep h.ge, fun b hb => by
    rcases h2.fresh b hb with h3 | h3
    · exact h.ge b h3
    · exact Nat.le_trans h.gb.b3 h3⟩

/-- What is done to a store that lies beyond block B. -/
def DoesL (B : Nat) (w : World) (own : Own) (s : Nat) (r : (Int × Int) × St) (e : Ending) (w' : World) : Prop :=
  e = .returned (.tuple #[.int .u64 r.1.1, .int .i64 r.1.2]) ∧ ∃ own', Live B w' own' s r.2 ∧ Steps w w' own own'
theorem Live.does {B : Nat} {w : World} {own : Own} {s : Nat} {A : St} (h : Live B w own s A) {r : (Int × Int) × St} (e : Ending) (w' : World) (hd : Does w own s r e w') : DoesL B w own s r e w' := by
  obtain ⟨he, own', h1, h2⟩ := hd
  exact ⟨he, own', h.step h1 h2, h2⟩

def aB : ByteArray := ⟨#[97]⟩
def bB : ByteArray := ⟨#[98]⟩
def cB : ByteArray := ⟨#[99]⟩
def bytesOpe (p off : Int) (l : List Int) : Ope := ⟨6, p, ByteArray.empty, 0, Inf.zero, off, l, 0⟩
/-- The store after each step. -/
def ws0 : St := St.new (lawConf 3)
def ws1 : St := (ws0.does (makOpe 1 aB 2147484096)).2
def ws2 : St := (ws1.does (makOpe 2 bB 384)).2
def ws3 : St := (ws2.does (makOpe 2 bB 384)).2
def ws4 : St := (ws3.does (makOpe 2 cB 384)).2
def ws5 : St := (ws4.does (bytesOpe 3 250 [1, 2, 3, 4, 5, 6])).2
def ws6 : St := (ws5.does (bytesOpe 3 250 [1, 2, 3, 4, 5, 6, 7])).2
theorem wr0 : ws0.next = 2 := by kernel_rfl
theorem wr1 : (ws0.does (makOpe 1 aB 2147484096)).1 = (2, 0) := by kernel_rfl
theorem wr2 : (ws1.does (makOpe 2 bB 384)).1 = (3, 0) := by kernel_rfl
theorem wr3 : (ws2.does (makOpe 2 bB 384)).1 = (0, 82) := by kernel_rfl
theorem wr4 : (ws3.does (makOpe 2 cB 384)).1 = (0, 83) := by kernel_rfl
theorem wr5 : (ws4.does (bytesOpe 3 250 [1, 2, 3, 4, 5, 6])).1 = (3, 0) := by kernel_rfl
theorem wr6 : (ws5.does (bytesOpe 3 250 [1, 2, 3, 4, 5, 6, 7])).1 = (0, 84) := by kernel_rfl
theorem wr7 : readOf ws6.l 3 248 4 = [0, 0, 1, 2] := by kernel_rfl
theorem wr8 : (tellOf ws6.l 3).len = 256 := by kernel_rfl
theorem wr9 : (tellOf ws6.l 3).parent = 2 := by kernel_rfl
theorem wr10 : (tellOf ws6.l 3).name = bB := by kernel_rfl
theorem wr11 : (find ws6.l 3).isSome = true := by kernel_rfl
theorem wr12 : (ws6.l.length : Int) = 3 := by kernel_rfl
theorem wn1 : ws1.next = 3 := by kernel_rfl
theorem wn2 : ws2.next = 4 := by kernel_rfl
theorem wn3 : ws3.next = 4 := by kernel_rfl

theorem built_bytes (p off : Int) (da : Option Addr) (l c : Nat) : Tryd.prog.built 53 [(0, .int .u8 6), (1, .int .u64 p), (5, .int .u64 off), (6, .slice da l c)] =
    some (opC (bytesOpe p off []) (.slice da l c)) := by kernel_rfl
theorem infOk_mak (p : Int) {s : ByteArray} (hs : s.size ≤ 255) {m : Int} (m0 : 0 ≤ m) (m1 : m < 4294967296) : InfOk (makOpe p s m).node :=
  { mode0 := m0, mode1 := m1, atime0 := Int.le_refl _, atime1 := by show (0 : Int) < _; omega, mtime0 := Int.le_refl _, mtime1 := by show (0 : Int) < _; omega
    name := by show s.size ≤ _; omega, uid := by show annB.size ≤ _; decide, gid := by show staffB.size ≤ _; decide, muid := by show annB.size ≤ _; decide }

theorem opC_bytes (p off : Int) (l l' : List Int) (v : Value) : opC (bytesOpe p off l) v = opC (bytesOpe p off l') v := rfl

/-- Bytes that lie in a new block. -/
theorem dataAt_new {B : Nat} {w : World} {own : Own} {s : Nat} {A : St} (h : Live B w own s A) (l : List Int) (hl : ∀ v ∈ l, 0 ≤ v ∧ v < 256) (hn : (l.length : Int) ≤ 4611686018427387904) (T : TypeId) :
    Live B (w.alloc (.cells (u8s l).toArray T)) own s A ∧ DataAt (w.alloc (.cells (u8s l).toArray T)) own l (.slice (some ⟨w.heap.size, 0, none⟩) l.length l.length) := by
  refine ⟨h.none (Keep.alloc _ _ _), some ⟨w.heap.size, 0, none⟩, l.length, rfl, hl, hn, fun _ => ⟨w.heap.size, 0, rfl, ?_, fun j v hj => ?_⟩⟩
  · cases ho : own w.heap.size with
    | none => rfl
    | some r =>
      obtain ⟨_, _, _, _, _, hr⟩ := h.st
      exact absurd (hr.dom _ (by rw [ho]; simp)) (Nat.lt_irrefl _)
  · rw [addp, cell_row (row_alloc_at w (u8s l).toArray T _ rfl)]
    simpa using hj
theorem strOf_list {w w' : World} {dv : Value} {l : List Int} (h : ListAt w w' dv l) {W : World} {S : Nat → Prop} (k : Keep w' W S) (hS : ∀ b, S b → b < w.heap.size) : ∀ dst, Tryd.prog.underlying dst = some .string → (convert 51 dst dv).run Tryd.prog W = .ok (.string (strOfNums l)) W := by
  intro dst hd
  rcases h with ⟨rfl, rfl⟩ | ⟨g, rfl, hg, hr⟩
  · exact run_convert_bytes_nil W _ _ Tryd.underlying51 Tryd.underlying5 0 0 dst hd
  · refine run_convert_bytes_arg W _ _ Tryd.underlying51 Tryd.underlying5 g 0 l.length l.length l rfl (fun i hi => ?_) dst hd
    rw [cell_row (k.row hr (fun h => by have := hS g h; omega))]
    simp [u8s, List.getElem?_eq_getElem hi, List.getD]

set_option maxHeartbeats 4000000 in
theorem works_any (w : World) (B : Nat) (hB : GB B w) :
    Calls Tryd.prog 11 #[] w fun e w' => e = .returned (.bool true) ∧ Keep w w' (fun _ => False) := by
  have HB := Lib.hid hB
  clear hB
  go_enter Tryd.func11, Tryd.ntmps11
  go_wp2_with fail
  refine (law_store w B HB.out (most := 3) (by omega) (by omega)).mono ?_
  rintro e w1 ⟨s, own, rfl, hb, hst, hge⟩
  have hL : Live w.heap.size w1 own s ws0 := ⟨hst, HB.out.below hb |> fun h => ⟨h.g, Nat.lt_of_lt_of_le h.b1 HB.out.b3, Nat.lt_of_lt_of_le h.b2 HB.out.b3, hb.size⟩, hge⟩
  have k1 : Keep w w1 (fun b => w.heap.size ≤ b) := Keep.of_below hb _
  have H1 := Lib.hid (And.intro hL k1)
  clear hb hst hge hL k1 HB
  go_wp2_with fail
  refine (next_any H1.out.1.st).mono ?_
  rintro e w2 ⟨rfl, k2⟩
  rw [wr0]
  have H2 := Lib.hid (And.intro (H1.out.1.none k2) (H1.out.2.trans k2 (fun _ _ h => h.elim)))
  clear k2
  go_wp2_with fail
  refine (mak_any _ 1 aB 2147484096).mono ?_
  rintro e w3 ⟨rfl, k3⟩
  have H3 := Lib.hid (And.intro (H2.out.1.none k3) (H2.out.2.trans k3 (fun _ _ h => h.elim)))
  clear k3
  go_wp2_with fail
  refine (do_make H3.out.1.st H3.out.1.gb H3.out.1.ge (o := makOpe 1 aB 2147484096) rfl (by decide) (by decide) (infOk_mak 1 (by decide) (by decide) (by decide)) (by rw [wr0]; decide)).mono ?_
  rintro e w4 hd
  obtain ⟨he, own1, hl, hs⟩ := H3.out.1.does _ _ hd
  rw [wr1] at he
  subst he
  have hl' : Live w.heap.size w4 own1 s ws1 := hl
  have H4 := Lib.hid (And.intro hl' (H3.out.2.trans hs.keep (fun b _ h => H3.out.1.ge b h)))
  clear hd hl hs hl'
  go_wp2_with fail
  refine (mak_any _ 2 bB 384).mono ?_
  rintro e w5 ⟨rfl, k3⟩
  have H5 := Lib.hid (And.intro (H4.out.1.none k3) (H4.out.2.trans k3 (fun _ _ h => h.elim)))
  clear k3
  go_wp2_with fail
  refine (do_make H5.out.1.st H5.out.1.gb H5.out.1.ge (o := makOpe 2 bB 384) rfl (by decide) (by decide) (infOk_mak 2 (by decide) (by decide) (by decide)) (by rw [wn1]; decide)).mono ?_
  rintro e w6 hd
  obtain ⟨he, own2, hl, hs⟩ := H5.out.1.does _ _ hd
  rw [wr2] at he
  subst he
  have hl' : Live w.heap.size w6 own2 s ws2 := hl
  have H6 := Lib.hid (And.intro hl' (H5.out.2.trans hs.keep (fun b _ h => H5.out.1.ge b h)))
  clear hd hl hs hl'
  go_wp2_with fail
  refine (mak_any _ 2 bB 384).mono ?_
  rintro e w7 ⟨rfl, k3⟩
  have H7 := Lib.hid (And.intro (H6.out.1.none k3) (H6.out.2.trans k3 (fun _ _ h => h.elim)))
  clear k3
  go_wp2_with fail
  refine (do_make H7.out.1.st H7.out.1.gb H7.out.1.ge (o := makOpe 2 bB 384) rfl (by decide) (by decide) (infOk_mak 2 (by decide) (by decide) (by decide)) (by rw [wn2]; decide)).mono ?_
  rintro e w8 hd
  obtain ⟨he, own3, hl, hs⟩ := H7.out.1.does _ _ hd
  rw [wr3] at he
  subst he
  have hl' : Live w.heap.size w8 own3 s ws3 := hl
  have H8 := Lib.hid (And.intro hl' (H7.out.2.trans hs.keep (fun b _ h => H7.out.1.ge b h)))
  clear hd hl hs hl'
  go_wp2_with fail
  refine (mak_any _ 2 cB 384).mono ?_
  rintro e w9 ⟨rfl, k3⟩
  have H9 := Lib.hid (And.intro (H8.out.1.none k3) (H8.out.2.trans k3 (fun _ _ h => h.elim)))
  clear k3
  go_wp2_with fail
  refine (do_make H9.out.1.st H9.out.1.gb H9.out.1.ge (o := makOpe 2 cB 384) rfl (by decide) (by decide) (infOk_mak 2 (by decide) (by decide) (by decide)) (by rw [wn3]; decide)).mono ?_
  rintro e w10 hd
  obtain ⟨he, own4, hl, hs⟩ := H9.out.1.does _ _ hd
  rw [wr4] at he
  subst he
  have hl' : Live w.heap.size w10 own4 s ws4 := hl
  have H10 := Lib.hid (And.intro hl' (H9.out.2.trans hs.keep (fun b _ h => H9.out.1.ge b h)))
  clear hd hl hs hl'
  go_wp2_with (first
    | ((with_reducible apply wpList_buildS (built_bytes _ _ _ _ _)); · rfl))
  obtain ⟨hlv, hda⟩ := dataAt_new H10.out.1 [1, 2, 3, 4, 5, 6] (by decide) (by decide) 5
  have hkp : Keep w (w10.alloc (.cells (u8s [1, 2, 3, 4, 5, 6]).toArray 5)) (fun b => w.heap.size ≤ b) := H10.out.2.thenAlloc _
  refine (do_put hlv.st (o := bytesOpe 3 250 [1, 2, 3, 4, 5, 6]) rfl (by decide) (by decide) (by decide) (by decide) hda).mono ?_
  rintro e w11 hd
  obtain ⟨he, own5, hl, hs⟩ := hlv.does _ _ hd
  rw [wr5] at he
  subst he
  have hl' : Live w.heap.size w11 own5 s ws5 := hl
  have H11 := Lib.hid (And.intro hl' (hkp.trans hs.keep (fun b _ h => hlv.ge b h)))
  clear hd hl hs hl' hlv hda hkp
  go_wp2_with (first
    | ((with_reducible apply wpList_buildS (built_bytes _ _ _ _ _)); · rfl))
  obtain ⟨hlv, hda⟩ := dataAt_new H11.out.1 [1, 2, 3, 4, 5, 6, 7] (by decide) (by decide) 5
  have hkp : Keep w (w11.alloc (.cells (u8s [1, 2, 3, 4, 5, 6, 7]).toArray 5)) (fun b => w.heap.size ≤ b) := H11.out.2.thenAlloc _
  refine (do_put hlv.st (o := bytesOpe 3 250 [1, 2, 3, 4, 5, 6, 7]) rfl (by decide) (by decide) (by decide) (by decide) hda).mono ?_
  rintro e w12 hd
  obtain ⟨he, own6, hl, hs⟩ := hlv.does _ _ hd
  rw [wr6] at he
  subst he
  have hl' : Live w.heap.size w12 own6 s ws6 := hl
  have H12 := Lib.hid (And.intro hl' (hkp.trans hs.keep (fun b _ h => hlv.ge b h)))
  clear hd hl hs hl' hlv hda hkp
  go_wp2_with fail
  refine (store_read H12.out.1.st (p := 3) (off := 248) (n := 4) (by decide) (by decide) (by decide) (by decide)).mono ?_
  rintro e w13 ⟨dv, rfl, k13, hli⟩
  rw [wr7] at hli
  have H13 := Lib.hid (And.intro (H12.out.1.none k13) (And.intro (H12.out.2.trans k13 (fun _ _ h => h.elim)) hli))
  clear k13 hli
  go_wp2_with fail
  refine (node_any H13.out.1.st (p := 3) (by decide) (by decide)).mono ?_
  rintro e w14 ⟨rfl, k14⟩
  rw [wr11]
  have e8 := wr8
  have e9 := wr9
  have e10 := wr10
  generalize tellOf ws6.l 3 = f at e8 e9 e10 ⊢
  have H14 := Lib.hid (And.intro (H13.out.1.none k14) (And.intro (H13.out.2.1.trans k14 (fun _ _ h => h.elim)) (And.intro e8 (And.intro e9 e10))))
  have HK := Lib.hid k14
  clear e8 e9 e10 k14
  go_wp2_with (first
    | ((with_reducible apply wpList_storeS size41); (· rfl); (· rfl); (· rfl); (· rfl); (· simp [go_sem])))
  obtain ⟨W, hW⟩ : ∃ W, W = w14.alloc (.cells f.cells.toArray 41) := ⟨_, rfl⟩
  rw [← hW]
  have kW : Keep w14 W (fun _ => False) := by rw [hW]; exact Keep.alloc _ _ _
  have rW : row W w14.heap.size = some (f.cells.toArray, 41) := by rw [hW]; exact row_alloc_at _ _ _ _ rfl
  refine (count_any (H14.out.1.none kW).st).mono ?_
  rintro e w15 ⟨rfl, k15⟩
  rw [wr12]
  have rf := k15.row rW (fun h => h)
  have k13 : Keep w13 w15 (fun _ => False) := (HK.out.trans kW (fun _ _ h => h)).trans k15 (fun _ _ h => h)
  have hcv := strOf_list H13.out.2.2 k13 (fun _ h => h.elim) 9 Tryd.underlying9
  rw [show strOfNums [0, 0, 1, 2] = ⟨#[0, 0, 1, 2]⟩ from rfl] at hcv
  have c10 : w15.cell? ⟨w14.heap.size, 10, none⟩ = some (.int .u64 256) := by rw [cell_row rf, ← H14.out.2.2.1]; rfl
  have c1 : w15.cell? ⟨w14.heap.size, 1, none⟩ = some (.int .u64 2) := by rw [cell_row rf, ← H14.out.2.2.2.1]; rfl
  have c2 : w15.cell? ⟨w14.heap.size, 2, none⟩ = some (.string ⟨#[98]⟩) := by
    rw [cell_row rf]
    have : f.name = ⟨#[98]⟩ := H14.out.2.2.2.2
    rw [← this]; rfl
  have kE : Keep w w15 (fun _ => False) := ((H14.out.2.1.trans (kW.trans k15 (fun _ _ h => h)) (fun _ _ h => h.elim)).mono (fun b hb h => absurd hb (by omega)))
  have HE := Lib.hid kE
  clear kW rW k15 rf k13 hW kE
  go_wp2_with fail
  go_ret
  exact ⟨rfl, HE.out⟩
end Go.Proofs.YtfbcdhcgmncklaaDoor
