/- The keys of maps by cells and by points, as literals; small facts on sets of cells. -/
import Derived.Test.YtaimeemdmklmbaaDec
import Derived.WideKeyPair
set_option linter.all false
namespace Go.Proofs.Ytaimeemdmklmbaa
open Go.RowKit
open Go.WideMaps (KeyLaw ArrKey keyOf_pair)
theorem arrCell : ArrKey Try.prog 52 3 2 := ⟨Try.underlying52, by kernel_rfl, by kernel_rfl, by kernel_rfl⟩
/-- A cell as a value. -/
def cellV (c : P2) : Value := .agg #[.int .i64 c.x, .int .i64 c.y]
theorem cellV_inj (a b : P2) (h : cellV a = cellV b) : a = b := by
  unfold cellV at h
  simp only [Value.agg.injEq, Array.mk.injEq, List.cons.injEq, Value.int.injEq, and_true, true_and] at h
  exact P2.ext' h.1 h.2
theorem wf64 {x : Int} (h : -10000 ≤ x ∧ x ≤ 10000) : (Lit.int .i64 x).wf = true := by
  have h1 : IntKind.i64.min = -9223372036854775808 := rfl
  have h2 : IntKind.i64.max = 9223372036854775807 := rfl
  simp only [Lit.wf, h1, h2, Bool.and_eq_true, decide_eq_true_eq]
  omega
theorem keyOf_cell (c : P2) (h : (-10000 ≤ c.x ∧ c.x ≤ 10000) ∧ (-10000 ≤ c.y ∧ c.y ≤ 10000)) : keyOf Try.prog 52 (cellV c) = some (.string (keyBytes [.int .i64 c.x, .int .i64 c.y])) :=
  keyOf_pair arrCell Try.underlying3 ⟨Try.prog.types.size - 1, by kernel_rfl⟩ (wf64 h.1) (wf64 h.2)
/-- The set of the cells that have been seen. -/
def seen2 (seen : List P2) (s : P2) : Option Bool := if s ∈ seen then some true else none
theorem seen2_put (seen : List P2) (s : P2) : fup (seen2 seen) s true = seen2 (seen ++ [s]) := by
  funext x
  unfold fup seen2
  by_cases h : x = s
  · subst h; simp
  · rw [if_neg h]
    simp [h]
theorem seen2_old (seen : List P2) (s : P2) (h : s ∈ seen) : seen2 (seen ++ [s]) = seen2 seen := by
  funext x
  unfold seen2
  have : (x ∈ seen ++ [s]) = (x ∈ seen) := by
    simp only [List.mem_append, List.mem_singleton, eq_iff_iff]
    exact ⟨fun h1 => h1.elim id fun e => e ▸ h, .inl⟩
  simp only [this]
theorem seen2_val (seen : List P2) (s : P2) : ((seen2 seen s).map fun b : Bool => Value.bool b).getD (.bool false) = .bool (decide (s ∈ seen)) := by
  unfold seen2
  split
  · rename_i h; rw [decide_eq_true h]; rfl
  · rename_i h; rw [decide_eq_false h]; rfl
theorem seen2_nil : seen2 [] = fun _ => none := by funext x; simp [seen2]
theorem mem_step {l ys : List P2} {c : P2} (h : ∀ x, x ∈ ys ↔ x ∈ l) : ∀ x, x ∈ ys ++ [c] ↔ x ∈ l ++ [c] := fun x => by simp [h x]
theorem mem_stay {l ys : List P2} {c : P2} (h : ∀ x, x ∈ ys ↔ x ∈ l) (hc : c ∈ l) : ∀ x, x ∈ ys ↔ x ∈ l ++ [c] := fun x => by
  rw [h x, List.mem_append, List.mem_singleton]
  exact ⟨.inl, fun h1 => h1.elim id fun e => e ▸ hc⟩
/-- A row is kept while an older block is written. -/
theorem Own.past {α : Type} {base X : Nat} {w w' : World} {E k : Nat} {enc : α → List Value} {v : Value} {xs : List α} (h : Own base w E k enc v xs) (hg : w.grownBy w' (some X)) (hX : X < base) : Own base w' E k enc v xs := by
  refine World.ownsRow.kept h hg ?_
  rcases h.2 with ⟨rfl, _⟩ | ⟨g, cap, cur, rfl, hb, _⟩
  · exact .inl rfl
  · refine .inr fun e => ?_
    obtain rfl : g = X := by simpa [Value.ownBlock] using e
    omega
theorem Block.past {w w' : World} {B X : Nat} {t : TypeId} {cs : Array Value} (h : Block w B t cs) (hg : w.grownBy w' (some X)) (hX : B ≠ X) : Block w' B t cs := (hg.block B h.lt (by simpa using hX)).trans h
end Go.Proofs.Ytaimeemdmklmbaa
