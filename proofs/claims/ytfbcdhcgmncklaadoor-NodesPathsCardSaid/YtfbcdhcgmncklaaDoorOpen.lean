/- What comes in, read: configurations. -/
import Derived.Test.YtfbcdhcgmncklaaDoorLaid
import Derived.SizedLaws
import Derived.Lib.SmallJoins
import Derived.Carry
namespace Go.Proofs.YtfbcdhcgmncklaaDoor
open Go.ChangeShapes Go.WideShapes Go.ChangeAt Go.RowKit Go.Nd
set_option maxRecDepth 100000

section
variable {H : Type} {enc : TypeId × Value → H} {P : Program} {w : World} {base : Nat} {spare : Nat → Bool} {held : Bool}
/-- A datum of whose parts none is too great. -/
def Small (P : Program) (t : TypeId) (d : DataW H) : Prop := ∀ n ∈ d.weights P t, n ≤ reachBytes
theorem Small.arg {ts : List TypeId} {ds : List (DataW H)} (h : (DataW.weightsEach P ts ds).all (· ≤ reachBytes) = true) {j : Nat} {t : TypeId} {d : DataW H} (ht : ts[j]? = some t) (hd : ds[j]? = some d) : Small P t d := fun n hn => by
  have := List.all_eq_true.1 h _ (DataW.weights_mem_each ht hd n hn)
  simpa using this
theorem Small.field {t : TypeId} {fs : Array Field} {parts : List (DataW H)} (h : Small P t (.agg parts)) (ht : P.underlying t = some (.struct fs)) {i : Nat} {f : Field} {d : DataW H} (hf : fs[i]? = some f) (hd : parts[i]? = some d) : Small P f.type d := fun n hn => by
  refine h n ?_
  simp only [DataW.weights, ht]
  exact DataW.weights_mem_each (j := i) (by simp [hf]) hd n hn
theorem Small.str {t : TypeId} {s : ByteArray} (h : Small (H := H) P t (.lit (.string s.data.toList))) : s.size ≤ 140737488351232 := by
  have := h s.data.toList.length (by simp [DataW.weights])
  have e : reachBytes = 140737488351232 := by decide
  rw [e] at this
  simpa using this
theorem fld {fs : Array Field} {n : Nat} {cs : List Value} {xs : List (DataW H × List MemPlace)} (hf : ∀ (i : Nat) (f : Field), fs[i]? = some f → DataW.trod enc P w base spare held n f.type ((cs.drop f.offset).take (P.cellsOf f.type)) = xs[i]?)
    {i off k : Nat} {ty : TypeId} (h : (fs[i]?).map (fun f => (f.type, f.offset)) = some (ty, off)) (hc : P.cellsOf ty = k) : DataW.trod enc P w base spare held n ty ((cs.drop off).take k) = xs[i]? := by
  obtain ⟨f, h1, h2⟩ := Option.map_eq_some_iff.1 h
  simp only [Prod.mk.injEq] at h2
  have := hf i f h1
  rw [h2.1, h2.2, hc] at this
  exact this
end

structure ConfOk (c : Conf) : Prop where
  users : c.users.size ≤ 140737488351232
  owner : c.owner.size ≤ 140737488351232
  group : c.group.size ≤ 140737488351232
  perm0 : 0 ≤ c.perm
  perm1 : c.perm < 4294967296

theorem u32_wf {n : Int} (h : (Lit.int .u32 n).wf = true) : 0 ≤ n ∧ n < 4294967296 := by
  simp [Lit.wf, IntKind.min, IntKind.max, IntKind.signed, IntKind.bits] at h
  omega

theorem conf_open {H : Type} {enc : TypeId × Value → H} {w : World} {base : Nat} {spare : Nat → Bool} {held : Bool} {fuel : Nat} {cs : List Value} {x : DataW H × List MemPlace}
    (h : DataW.trod enc Tryd.prog w base spare held fuel 32 cs = some x) (hs : Small Tryd.prog 32 x.1) : ∃ c : Conf, cs = c.cells ∧ ConfOk c := by
  obtain ⟨xs, n, _, rfl, hl, hlen, hf⟩ := DataW.trod_struct Tryd.underlying32 h
  have hC : Tryd.prog.cellsOf 32 = 10 := by kernel_rfl
  have c1 : Tryd.prog.cellsOf 9 = 1 := by kernel_rfl
  have c2 : Tryd.prog.cellsOf 29 = 1 := by kernel_rfl
  have c3 : Tryd.prog.cellsOf 30 = 1 := by kernel_rfl
  have c4 : Tryd.prog.cellsOf 3 = 1 := by kernel_rfl
  rw [hC] at hl
  match cs, hl, xs, hlen with
  | [a0, a1, a2, a3, a4, a5, a6, a7, a8, a9], _, [y0, y1, y2, y3, y4, y5, y6, y7, y8, y9], _ =>
    have f0 := fld hf (i := 0) (ty := 9) (off := 0) (k := 1) rfl c1
    have f1 := fld hf (i := 1) (ty := 9) (off := 1) (k := 1) rfl c1
    have f2 := fld hf (i := 2) (ty := 9) (off := 2) (k := 1) rfl c1
    have f3 := fld hf (i := 3) (ty := 29) (off := 3) (k := 1) rfl c2
    have f4 := fld hf (i := 4) (ty := 30) (off := 4) (k := 1) rfl c3
    have f5 := fld hf (i := 5) (ty := 29) (off := 5) (k := 1) rfl c2
    have f6 := fld hf (i := 6) (ty := 3) (off := 6) (k := 1) rfl c4
    have f7 := fld hf (i := 7) (ty := 3) (off := 7) (k := 1) rfl c4
    have f8 := fld hf (i := 8) (ty := 3) (off := 8) (k := 1) rfl c4
    have f9 := fld hf (i := 9) (ty := 3) (off := 9) (k := 1) rfl c4
    obtain ⟨s0, e0, rfl, _⟩ := DataW.trod_string Tryd.underlying9 f0
    obtain ⟨s1, e1, rfl, _⟩ := DataW.trod_string Tryd.underlying9 f1
    obtain ⟨s2, e2, rfl, _⟩ := DataW.trod_string Tryd.underlying9 f2
    obtain ⟨n3, e3, _, w3⟩ := DataW.trod_int Tryd.underlying29 f3
    obtain ⟨n4, e4, _, w4⟩ := DataW.trod_int Tryd.underlying30 f4
    obtain ⟨n5, e5, _, w5⟩ := DataW.trod_int Tryd.underlying29 f5
    obtain ⟨n6, e6, _, w6⟩ := DataW.trod_int Tryd.underlying3 f6
    obtain ⟨n7, e7, _, w7⟩ := DataW.trod_int Tryd.underlying3 f7
    obtain ⟨n8, e8, _, w8⟩ := DataW.trod_int Tryd.underlying3 f8
    obtain ⟨n9, e9, _, w9⟩ := DataW.trod_int Tryd.underlying3 f9
    simp only [List.drop_succ_cons, List.drop_zero, List.take_succ_cons, List.take_zero, List.cons.injEq, and_true] at e0 e1 e2 e3 e4 e5 e6 e7 e8 e9
    subst e0 e1 e2 e3 e4 e5 e6 e7 e8 e9
    have k0 := (hs.field Tryd.underlying32 (i := 0) rfl rfl).str
    have k1 := (hs.field Tryd.underlying32 (i := 1) rfl rfl).str
    have k2 := (hs.field Tryd.underlying32 (i := 2) rfl rfl).str
    exact ⟨⟨s0, s1, s2, n3, n4, n5, n6, n7, n8, n9⟩, rfl, k0, k1, k2, (u32_wf w3).1, (u32_wf w3).2⟩
end Go.Proofs.YtfbcdhcgmncklaaDoor
