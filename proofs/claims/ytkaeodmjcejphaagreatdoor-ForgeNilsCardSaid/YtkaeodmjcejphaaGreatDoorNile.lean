/- The closed facts of the row of ForgeNils: what the row's cells say is what the program forces. -/
import Derived.Test.YtkaeodmjcejphaaGreatDoorRows
import Derived.JoinedOf
import Derived.KernelRfl
set_option linter.all false
namespace Go.Proofs.YtkaeodmjcejphaaGreatDoor
open Go
theorem nils_wf : Rows.forgeNilsRow.wf (OpenSpec.ofChange Rows.forgeNilsSpec) = true := by kernel_rfl
theorem nils_laid : laidOutB Tryz.prog = true := by kernel_rfl
theorem nils_rowed : mapsRowed Tryz.prog = true := by kernel_rfl
theorem nils_inplace : (Rows.forgeNilsRow.inPlace == Tryz.prog.inPlace 3) = true := by kernel_rfl
theorem nils_unf : (Rows.forgeNilsRow.unfollowed == Tryz.prog.unfollowed 3) = true := by kernel_rfl
theorem nils_rec : (Rows.forgeNilsRow.recurses == Tryz.prog.recurses 3) = true := by kernel_rfl
theorem nils_named : (Rows.forgeNilsRow.named == Tryz.prog.varsNamed 3) = true := by kernel_rfl
theorem nils_keys : (Rows.forgeNilsRow.plainKeys == Tryz.prog.plainKeys) = true := by kernel_rfl
theorem nils_heard : Tryz.prog.stopsHeard = true := by kernel_rfl
theorem nils_enter : Tryz.prog.mayEnter = true := by kernel_rfl
theorem nils_lifted : (Rows.forgeNilsRow.lifted == Tryz.prog.liftsFinal) = true := by kernel_rfl
theorem nils_make : (Tryz.prog.make == some Rows.forgeNilsRow.make) = true := by kernel_rfl
theorem nils_closed : joinedFacts Tryz.prog 3 Tryz.f3 Rows.forgeNilsSpec Rows.forgeNilsRow = true := by
  unfold joinedFacts
  simp only [Bool.and_eq_true]
  exact ⟨⟨⟨⟨⟨⟨⟨⟨⟨⟨⟨⟨⟨⟨⟨⟨⟨⟨⟨⟨⟨⟨⟨⟨⟨⟨⟨⟨⟨⟨⟨nils_wf, nils_laid⟩, nils_rowed⟩, (by as_aux_lemma => kernel_rfl)⟩, (by as_aux_lemma => kernel_rfl)⟩, (by as_aux_lemma => kernel_rfl)⟩, (by as_aux_lemma => kernel_rfl)⟩, (by as_aux_lemma => kernel_rfl)⟩, (by as_aux_lemma => kernel_rfl)⟩, nils_inplace⟩, nils_unf⟩, nils_rec⟩, nils_named⟩, (by as_aux_lemma => kernel_rfl)⟩, (by as_aux_lemma => kernel_rfl)⟩, (by as_aux_lemma => kernel_rfl)⟩, (by as_aux_lemma => kernel_rfl)⟩, (by as_aux_lemma => kernel_rfl)⟩, (by as_aux_lemma => kernel_rfl)⟩, (by as_aux_lemma => kernel_rfl)⟩, (by as_aux_lemma => kernel_rfl)⟩, (by as_aux_lemma => kernel_rfl)⟩, nils_keys⟩, (by as_aux_lemma => kernel_rfl)⟩, nils_heard⟩, nils_enter⟩, nils_lifted⟩, nils_make⟩, (by as_aux_lemma => kernel_rfl)⟩, (by as_aux_lemma => kernel_rfl)⟩, (by as_aux_lemma => kernel_rfl)⟩, (by as_aux_lemma => kernel_rfl)⟩
end Go.Proofs.YtkaeodmjcejphaaGreatDoor
