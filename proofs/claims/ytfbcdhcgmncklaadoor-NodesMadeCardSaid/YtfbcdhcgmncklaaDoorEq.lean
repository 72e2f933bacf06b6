/- Two Nodes compared. -/
import Derived.Test.YtfbcdhcgmncklaaDoorTell
import Derived.Laws.StructEq
namespace Go.Nd
open Go
def Inf.eqB (f g : Inf) : Bool :=
  (f.path == g.path) && ((f.parent == g.parent) && ((f.name.toList == g.name.toList) && ((f.mode == g.mode) && ((f.uid.toList == g.uid.toList) && ((f.gid.toList == g.gid.toList) && ((f.muid.toList == g.muid.toList) &&
  ((f.atime == g.atime) && ((f.mtime == g.mtime) && ((f.vers == g.vers) && ((f.len == g.len) && ((f.opens == g.opens) && ((f.kids == g.kids) && true))))))))))))
theorem Inf.eqB_refl (f : Inf) : f.eqB f = true := by simp [Inf.eqB]
theorem Inf.eqB_iff {f g : Inf} : f.eqB g = true ↔ f = g := by
  constructor
  · intro h
    have bt : ∀ {a b : ByteArray}, (a.toList == b.toList) = true → a = b := fun {a b} h => by
      rw [beq_iff_eq, ByteArray.toList_eq, ByteArray.toList_eq] at h
      obtain ⟨⟨x⟩⟩ := a
      obtain ⟨⟨y⟩⟩ := b
      have h' : x = y := h
      rw [h']
    simp only [Inf.eqB, Bool.and_eq_true] at h
    obtain ⟨h1, h2, h3, h4, h5, h6, h7, h8, h9, h10, h11, h12, h13, _⟩ := h
    obtain ⟨⟩ := f
    obtain ⟨⟩ := g
    simp only [beq_iff_eq] at h1 h2 h4 h8 h9 h10 h11 h12 h13
    subst h1 h2 h4 h8 h9 h10 h11 h12 h13
    cases bt h3
    cases bt h5
    cases bt h6
    cases bt h7
    rfl
  · rintro rfl; exact Inf.eqB_refl _
theorem eqF_step {P : Program} {w : World} {d : Nat} {xs ys : Array Value} {f : Field} {fs : List Field} {a b : Value} {r r' : Bool} (hn : f.name ≠ "_") (h1 : (part f.type xs f.offset).run P w = .ok a w) (h2 : (part f.type ys f.offset).run P w = .ok b w)
    (h3 : (Op.equalIn d f.type a b).run P w = .ok r w) (h4 : (Op.eqFields d xs ys fs).run P w = .ok r' w) : (Op.eqFields d xs ys (f :: fs)).run P w = .ok (r && r') w := by
  simp only [Op.eqFields, if_pos hn, Sem.run_bind, h1, h2, h3, Result.andThen_ok]
  cases r
  · simp
  · simpa using h4
theorem part_one {P : Program} {w : World} {t : TypeId} {cs : Array Value} {off : Nat} {v : Value} (h : (isAgg t).run P w = .ok false w) (hv : cs[off]? = some v) : (part t cs off).run P w = .ok v w := by
  simp [part, Sem.run_bind, h, Result.andThen, hv]
/-- A struct loaded whole, by an operation that is guarded and wanted. -/
theorem wpList_loadSg {P : Program} {ops : Array Oper} {rest : List Oper} {a : Act} {w : World} {Q : Exit → Act → World → Prop} {dst : Option Tmp} {ty tt : TypeId} {x : Operand} {pos : String} {after : Array Edge} {gd : Nat × Bool} {n b off : Nat}
    (hagg : ∀ w, (isAgg ty).run P w = .ok true w) (hs : ∀ w, (sizeOf ty).run P w = .ok n w) (hgd : Region.wanted ⟨dst, .load ty x, tt, pos, after, some gd⟩ (yielded ops a.tmps) = true) (hx : a.eval x = .pointer (some ⟨b, off, none⟩))
    (hr : (row w b).map (fun r => decide (off + n ≤ r.1.size)) = some true)
    (h : wpList P ops Q rest (a.put dst (.agg ((((row w b).getD (#[], 0)).1).extract off (off + n)))) w) : wpList P ops Q (⟨dst, .load ty x, tt, pos, after, some gd⟩ :: rest) a w := by
  refine wpList_step fun K hK => ?_
  rw [if_pos hgd]
  unfold Oper.wp execOp
  simp only [hx, Instr.loadAt, Instr.sureAddr, Sem.run_bind, Sem.run_pure, Result.andThen_ok, run_loadVar_part w b off ty n (hagg w) (hs w) hr]
  exact hK _ _ h
theorem wpList_eqlS {P : Program} {ops : Array Oper} {rest : List Oper} {a : Act} {w : World} {Q : Exit → Act → World → Prop} {dst : Option Tmp} {ty rt tt : TypeId} {x y : Operand} {pos : String} {after : Array Edge} {gd : Option (Nat × Bool)} {op : BinOp} {xs ys : Array Value} {r : Bool}
    (hgd : Region.wanted ⟨dst, .binOp op ty x y rt, tt, pos, after, gd⟩ (yielded ops a.tmps) = true) (hm : P.eqGuardType P.depth ty = false) (hx : a.eval x = .agg xs) (hy : a.eval y = .agg ys) (hr : (binOp op ty (.agg xs) (.agg ys)).run P w = .ok (.bool r) w)
    (h : wpList P ops Q rest (a.put dst (.bool r)) w) : wpList P ops Q (⟨dst, .binOp op ty x y rt, tt, pos, after, gd⟩ :: rest) a w := by
  refine wpList_step fun K hK => ?_
  rw [if_pos hgd]
  unfold Oper.wp execOp
  simp only [hx, hy, Sem.run_bind, run_eqGuard_agg w op ty x y xs ys hm, hr, Result.andThen_ok]
  exact hK _ _ h
end Go.Nd
namespace Go.Proofs.YtfbcdhcgmncklaaDoor
open Go Go.RowKit Go.Nd
set_option maxRecDepth 100000
theorem run_eq41 (w : World) (d : Nat) (f g : Inf) : (Op.equalIn (d + 2) 41 (.agg f.cells.toArray) (.agg g.cells.toArray)).run Tryd.prog w = .ok (f.eqB g) w := by
  rw [run_equalIn_agg w (d + 1) 41 _ _ (by kernel_rfl) (by kernel_rfl)]
  simp only [Program.fieldsOf, Tryd.underlying41]
  have U := Tryd.isAgg30
  have S := Tryd.isAgg9
  have M := Tryd.isAgg29
  have I := Tryd.isAgg3
  refine eqF_step (by decide) (part_one (U w) rfl) (part_one (U w) rfl) (run_equalIn_int w d _ .u64 .u64 _ _ Tryd.underlying30) ?_
  refine eqF_step (by decide) (part_one (U w) rfl) (part_one (U w) rfl) (run_equalIn_int w d _ .u64 .u64 _ _ Tryd.underlying30) ?_
  refine eqF_step (by decide) (part_one (S w) rfl) (part_one (S w) rfl) (run_equalIn_string w d _ _ _ Tryd.underlying9) ?_
  refine eqF_step (by decide) (part_one (M w) rfl) (part_one (M w) rfl) (run_equalIn_int w d _ .u32 .u32 _ _ Tryd.underlying29) ?_
  refine eqF_step (by decide) (part_one (S w) rfl) (part_one (S w) rfl) (run_equalIn_string w d _ _ _ Tryd.underlying9) ?_
  refine eqF_step (by decide) (part_one (S w) rfl) (part_one (S w) rfl) (run_equalIn_string w d _ _ _ Tryd.underlying9) ?_
  refine eqF_step (by decide) (part_one (S w) rfl) (part_one (S w) rfl) (run_equalIn_string w d _ _ _ Tryd.underlying9) ?_
  refine eqF_step (by decide) (part_one (M w) rfl) (part_one (M w) rfl) (run_equalIn_int w d _ .u32 .u32 _ _ Tryd.underlying29) ?_
  refine eqF_step (by decide) (part_one (M w) rfl) (part_one (M w) rfl) (run_equalIn_int w d _ .u32 .u32 _ _ Tryd.underlying29) ?_
  refine eqF_step (by decide) (part_one (M w) rfl) (part_one (M w) rfl) (run_equalIn_int w d _ .u32 .u32 _ _ Tryd.underlying29) ?_
  refine eqF_step (by decide) (part_one (U w) rfl) (part_one (U w) rfl) (run_equalIn_int w d _ .u64 .u64 _ _ Tryd.underlying30) ?_
  refine eqF_step (by decide) (part_one (I w) rfl) (part_one (I w) rfl) (run_equalIn_int w d _ .i64 .i64 _ _ Tryd.underlying3) ?_
  refine eqF_step (by decide) (part_one (I w) rfl) (part_one (I w) rfl) (run_equalIn_int w d _ .i64 .i64 _ _ Tryd.underlying3) ?_
  rfl
theorem run_eql41 (w : World) (f g : Inf) : (binOp .eql 41 (.agg f.cells.toArray) (.agg g.cells.toArray)).run Tryd.prog w = .ok (.bool (f.eqB g)) w := by
  rw [run_eql_struct, run_eq41 w 9998]; rfl
theorem guard41 : Tryd.prog.eqGuardType Tryd.prog.depth 41 = false := by kernel_rfl
theorem run_neq41 (w : World) (f g : Inf) : (binOp .neq 41 (.agg f.cells.toArray) (.agg g.cells.toArray)).run Tryd.prog w = .ok (.bool (!f.eqB g)) w := by
  rw [run_neq_struct, run_eq41 w 9998]; rfl
end Go.Proofs.YtfbcdhcgmncklaaDoor
