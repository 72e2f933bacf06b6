/- Operations upon one node: plain facts. -/
import Derived.Test.YtfbcdhcgmncklaaDoorUpd
namespace Go.Proofs.YtfbcdhcgmncklaaDoor
open Go Go.RowKit Go.Nd Go.Maps Go.MuLone Go.RwLone
set_option maxRecDepth 100000

theorem one_does {A : St} (hA : StOk A) {o : Ope} (k4 : 4 ≤ o.kind) (k7 : o.kind ≤ 7) {d : Ent} (hf : find A.l o.path = some d) :
    A.does o = if (d.does o).1 = 0 then ((o.path, 0), A.now d (d.does o).2) else ((0, (d.does o).1), A) := by
  obtain ⟨hd, hp⟩ := find_path hf
  have := now_upd hA hd (fun x => (x.does o).2)
  rw [hp] at this
  unfold St.does
  rw [if_neg (by omega), hf]
  simp only
  rw [if_neg (by omega), if_neg (by omega), if_neg (by omega), this]

theorem ite_of {α : Type} {p : Prop} [Decidable p] {a b : α} (Q : α → Prop) (h1 : Q a) (h2 : Q b) : Q (if p then a else b) := by
  split
  · exact h1
  · exact h2

/-! ### set -/
theorem set_err {e : Ent} {m : Int} {f : Inf} (h : (e.set m f).1 ≠ 0) : (e.set m f).2 = e := by
  revert h
  unfold Ent.set
  split
  · simp
  split
  · simp
  · simp
theorem set_alike (e : Ent) (m : Int) (f : Inf) : Alike e (e.set m f).2 := by
  unfold Ent.set
  split
  · exact ⟨rfl, rfl, rfl, rfl⟩
  split
  · exact ⟨rfl, rfl, rfl, rfl⟩
  · rename_i h
    refine ⟨rfl, rfl, rfl, ?_⟩
    by_cases h1 : (bits .and .u8 m 1 != 0) = true
    · exact (congrArg isDir (if_pos h1)).trans (Decidable.byContradiction fun hne => h ⟨h1, hne⟩)
    · exact congrArg isDir (if_neg h1)
theorem set_entOk {e : Ent} (h : EntOk e) {m : Int} {f : Inf} (hf : InfOk f) : EntOk (e.set m f).2 := by
  have al := set_alike e m f
  revert al
  unfold Ent.set
  split
  · intro _; exact h
  rename_i h1
  split
  · intro _; exact h
  rename_i h2
  intro al
  simp only [not_or, not_and] at h1
  obtain ⟨_, _, hu, hg, hm⟩ := h1
  have usr : ∀ {b : Bool} {s t : ByteArray}, (b = true → ¬ (!userOk s) = true) → t.size ≤ 32 → (if b = true then s else t).size ≤ 32 := fun {b s t} h ht => by
    cases b
    · simpa using ht
    · have := h rfl
      simp only [Bool.not_eq_true, Bool.not_eq_false'] at this
      simpa using userOk_size this
  exact { path0 := h.path0, parent0 := h.parent0, name := h.name
          mode0 := ite_of (0 ≤ ·) hf.mode0 h.mode0
          mode1 := ite_of (· < 4294967296) hf.mode1 h.mode1
          uid := usr hu h.uid
          gid := usr hg h.gid
          muid := usr hm h.muid
          atime0 := ite_of (0 ≤ ·) hf.atime0 h.atime0
          atime1 := ite_of (· < 4294967296) hf.atime1 h.atime1
          mtime0 := ite_of (0 ≤ ·) hf.mtime0 h.mtime0
          mtime1 := ite_of (· < 4294967296) hf.mtime1 h.mtime1
          vers0 := ite_of (0 ≤ ·) (by omega) h.vers0
          vers1 := ite_of (· < 4294967296) (by omega) h.vers1
          len0 := h.len0, len1 := h.len1, opens0 := h.opens0, opens1 := h.opens1, kids := h.kids
          dir := fun hh => h.dir (by rw [← al.dir]; exact hh)
          byte0 := h.byte0, byte1 := h.byte1, beyond := h.beyond }

/-! ### cut -/
theorem cut_err {e : Ent} {n : Int} (h : (e.cut n).1 ≠ 0) : (e.cut n).2 = e := by
  revert h
  unfold Ent.cut
  repeat' split
  all_goals simp
theorem cut_alike (e : Ent) (n : Int) : Alike e (e.cut n).2 := by
  unfold Ent.cut
  repeat' split
  all_goals exact ⟨rfl, rfl, rfl, rfl⟩
theorem cut_entOk {e : Ent} (h : EntOk e) {n : Int} (n0 : 0 ≤ n) : EntOk (e.cut n).2 := by
  unfold Ent.cut
  split
  · exact h
  rename_i h1
  split
  · exact h
  rename_i h2
  exact { path0 := h.path0, parent0 := h.parent0, name := h.name, mode0 := h.mode0, mode1 := h.mode1, uid := h.uid, gid := h.gid, muid := h.muid, atime0 := h.atime0, atime1 := h.atime1, mtime0 := h.mtime0, mtime1 := h.mtime1
          vers0 := h.vers0, vers1 := h.vers1, len0 := n0, len1 := by show n ≤ 65536; omega, opens0 := h.opens0, opens1 := h.opens1, kids := h.kids
          dir := fun hh => absurd hh h1
          byte0 := fun i => by show 0 ≤ cutData _ _ _; unfold cutData; split; exact h.byte0 i; omega
          byte1 := fun i => by show cutData _ _ _ < 256; unfold cutData; split; exact h.byte1 i; omega
          beyond := fun i hi => by
            have hi' : n ≤ (i : Int) := hi
            show cutData _ _ _ = 0; unfold cutData; rw [if_neg (by omega)] }

/-! ### opens -/
theorem open_err {e : Ent} {n : Int} (h : (e.opening n).1 ≠ 0) : (e.opening n).2 = e := by
  revert h
  unfold Ent.opening
  split <;> simp
theorem open_alike (e : Ent) (n : Int) : Alike e (e.opening n).2 := by
  unfold Ent.opening
  split
  all_goals exact ⟨rfl, rfl, rfl, rfl⟩
theorem open_entOk {e : Ent} (h : EntOk e) (n : Int) : EntOk (e.opening n).2 := by
  unfold Ent.opening
  split
  · exact h
  rename_i h1
  have := h.opens0
  have := h.opens1
  exact { path0 := h.path0, parent0 := h.parent0, name := h.name, mode0 := h.mode0, mode1 := h.mode1, uid := h.uid, gid := h.gid, muid := h.muid, atime0 := h.atime0, atime1 := h.atime1, mtime0 := h.mtime0, mtime1 := h.mtime1
          vers0 := h.vers0, vers1 := h.vers1, len0 := h.len0, len1 := h.len1
          opens0 := by show 0 ≤ e.inf.opens + n; omega
          opens1 := by show e.inf.opens + n ≤ _; omega
          kids := h.kids, dir := h.dir, byte0 := h.byte0, byte1 := h.byte1, beyond := h.beyond }
end Go.Proofs.YtfbcdhcgmncklaaDoor
