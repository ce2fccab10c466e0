/- Small words more for regions that draw their order. -/
import Derived.Test.YtaimeemdmklmbaaKit
set_option linter.all false
namespace Go.Proofs.Ytaimeemdmklmbaa
open Go.RowKit Go.Shelf
theorem kcell {w w' : World} (hb : Below w.drew.heap.size w.drew w') : ∀ b o, b < w.heap.size → w'.cell? ⟨b, o, none⟩ = w.cell? ⟨b, o, none⟩ := fun b o h => hb.cell (p := ⟨b, o, none⟩) h
theorem kcell' {w w' : World} {n : Nat} (hb : Below n w w') : ∀ b o, b < n → w'.cell? ⟨b, o, none⟩ = w.cell? ⟨b, o, none⟩ := fun b o h => hb.cell (p := ⟨b, o, none⟩) h
theorem kbelow {w w' : World} (hb : Below w.drew.heap.size w.drew w') : Below w.heap.size w w' := (Below.refl _ w).drew.trans hb
theorem kbelowA {w w' : World} {o : Obj} (hb : Below (w.drew.alloc o).heap.size (w.drew.alloc o) w') : Below w.heap.size w w' :=
  ((Below.refl _ w).drew.alloc (Nat.le_refl _) o).trans (hb.mono (by rw [World.size_alloc]; exact Nat.le_succ _))
theorem new_cellsB {w : World} {l : List Value} {t : TypeId} {B : Nat} (h : w.heap.size = B) : ∀ j u, l[j]? = some u → (w.alloc (.cells l.toArray t)).cell? ⟨B, j, none⟩ = some u := by subst h; exact new_cells
/-- A variable of one type is kept while a row of another one grows. -/
theorem Block.apart {β : Type} [Inhabited β] {b' B : Nat} {w w1 : World} {t : TypeId} {cs : Array Value} {E' k' : Nat} {enc' : β → List Value} {v' : Value} {ys : List β} (h : Block w B t cs) (h' : Own b' w E' k' enc' v' ys) (hne : t ≠ E') (hg : w.grownBy w1 v'.ownBlock) : Block w1 B t cs := by
  refine (hg.block B h.lt fun e => ?_).trans h
  rcases h'.2 with ⟨rfl, _⟩ | ⟨g', cap', cur', rfl, _, hgb', _⟩
  · simp [Value.ownBlock] at e
  · obtain rfl : B = g' := by simpa [Value.ownBlock] using e
    rw [show w.heap[B]? = _ from h] at hgb'
    simp only [Option.some.injEq, Obj.cells.injEq] at hgb'
    exact hne hgb'.2.1
end Go.Proofs.Ytaimeemdmklmbaa
