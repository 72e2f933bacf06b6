/- What the listed tables give a walk; the witness's world. -/
import Derived.Test.YtfbcdhcgmncklaaDoorTie
import Derived.Test.YtfbcdhcgmncklaaDoorCards
import Derived.Test.YtfbcdhcgmncklaaDoorText
import Derived.ProofKit
import Derived.OpenShut
import Derived.LaidMore
import Derived.Lay
import Derived.SevenTiedAt
import Derived.Stop.Joined
import Derived.Lib.LaidU8
namespace Go.Proofs.YtfbcdhcgmncklaaDoor
open Go.ChangeShapes Go.WideShapes Go.ChangeAt Go.RowKit Go.Nd
set_option maxRecDepth 100000

theorem own : ownKnob Tryd.prog.godebug = none := by kernel_rfl
/-- What every row of this seat lists. -/
abbrev laidL : List (String × DataW Unit) := [("unicode/utf8.acceptRanges", Rows.laid_unicode_utf8_acceptRanges), ("unicode/utf8.first", Rows.laid_unicode_utf8_first)]
theorem laid_first : Rows.laid_unicode_utf8_first = Lib.firstData := by kernel_rfl
theorem laid_accept : (Rows.laid_unicode_utf8_acceptRanges : DataW Unit) = Lib.acceptData := by kernel_rfl
theorem g_of_laid {W : World} (h : laidMetH Tryd.prog laidL W) : GB W.heap.size W := by
  rw [MakeChecks.laidMetH_plain _ _ _ (by kernel_rfl)] at h
  have h1 := Lib.laidMet.reads h (.tail _ (.head _))
  have h2 := Lib.laidMet.reads h (.head _)
  rw [laid_first] at h1
  rw [laid_accept] at h2
  have g : G W := utf8Tabs_of_reads Tryd.lays260 ⟨by kernel_rfl, by kernel_rfl, by kernel_rfl, by kernel_rfl, by kernel_rfl, by kernel_rfl, by kernel_rfl⟩ h1 h2
  exact ⟨g, World.block_lt_of_cell? W _ (g.1 0 (by decide)), World.block_lt_of_cell? W _ (g.2 0 (by decide)).1, Nat.le_refl _⟩
/-- The witness's world: the listed tables laid. -/
noncomputable abbrev laidW (os : Os) : World := World.laidAll Tryd.prog os laidL
theorem laidW_met (os : Os) (args : Array Value) : laidMetH Tryd.prog laidL ((laidW os).forCall (fun _ _ => 0) ⟨#[], args, []⟩).memory := by
  rw [MakeChecks.laidMetH_plain _ _ _ (by kernel_rfl)]
  exact laidMet_laidAll _ (by kernel_rfl) (by kernel_rfl)
end Go.Proofs.YtfbcdhcgmncklaaDoor
