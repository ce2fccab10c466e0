/- Slices of cells that a call owns: an element is written, the tail is cleared, a prefix is taken. -/
import Derived.Test.YtaimeemdmklmbaaKit2
import Derived.Lib.SliceRun
set_option linter.all false
namespace Go.Proofs.Ytaimeemdmklmbaa
open Go.RowKit Go.Shelf

section
variable {base : Nat} {w : World} {E g n cap : Nat} {ys : List P2}
theorem Own.lenB {α : Type} {k : Nat} {enc : α → List Value} {p : Option Addr} {xs : List α} (h : Own base w E k enc (.slice p n cap) xs) : n = xs.length := by
  rcases h.2 with ⟨h1, h2⟩ | ⟨g, c, cur, h1, _⟩
  · cases h1; exact h2.symm
  · cases h1; rfl
theorem Own.capB {α : Type} {k : Nat} {enc : α → List Value} {xs : List α} (h : Own base w E k enc (.slice (some ⟨g, 0, none⟩) n cap) xs) : n ≤ cap ∧ cap ≤ maxLen ∧ base ≤ g ∧ g < w.heap.size := by
  rcases h.2 with ⟨h1, h2⟩ | ⟨g', c, cur, h1, hb, hg, hn, hm, _⟩
  · cases h1
  · cases h1
    exact ⟨hn, hm, hb, (Array.getElem?_eq_some_iff.1 hg).1⟩
theorem Own.cl (h : Own base w E 2 P2.enc (.slice (some ⟨g, 0, none⟩) n cap) ys) {i : Nat} (hi : i < ys.length) : w.cell? ⟨g, i * 2, none⟩ = some (.int .i64 (ys[i]!).x) ∧ w.cell? ⟨g, i * 2 + 1, none⟩ = some (.int .i64 (ys[i]!).y) ∧ w.frozen? ⟨g, i * 2, none⟩ = false ∧ w.frozen? ⟨g, i * 2 + 1, none⟩ = false := by
  have hn := h.lenB
  subst hn
  have h1 := flat_get (enc := P2.enc) (k := 2) (fun _ => rfl) ys i 0 hi (by decide)
  have h2 := flat_get (enc := P2.enc) (k := 2) (fun _ => rfl) ys i 1 hi (by decide)
  have hh : w.ownsRow base E 2 (.slice (some ⟨g, 0, none⟩) ys.length cap) ys.length (ys.flatMap P2.enc) := h
  refine ⟨?_, ?_, hh.frozenAt _, hh.frozenAt _⟩
  · rw [hh.cellAt (i * 2) (by omega)]; simpa [P2.enc] using h1
  · rw [hh.cellAt (i * 2 + 1) (by omega)]; simpa [P2.enc] using h2
theorem flat_set : ∀ (ys : List P2) (i : Nat) (y : P2), ((ys.flatMap P2.enc).set (i * 2) (.int .i64 y.x)).set (i * 2 + 1) (.int .i64 y.y) = (ys.set i y).flatMap P2.enc
  | [], i, y => by simp
  | x :: r, 0, y => by simp [P2.enc]
  | x :: r, i + 1, y => by
    have := flat_set r i y
    simp only [List.flatMap_cons, List.set_cons_succ, P2.enc, List.cons_append, List.nil_append] at *
    rw [show (i + 1) * 2 = i * 2 + 1 + 1 by omega]
    simp only [List.set_cons_succ]
    rw [this]
/-- An element is written. -/
theorem Own.set (h : Own base w E 2 P2.enc (.slice (some ⟨g, 0, none⟩) n cap) ys) (i : Nat) (y : P2) : Own base ((w.setCell ⟨g, i * 2, none⟩ (.int .i64 y.x)).setCell ⟨g, i * 2 + 1, none⟩ (.int .i64 y.y)) E 2 P2.enc (.slice (some ⟨g, 0, none⟩) n cap) (ys.set i y) := by
  have hn := h.lenB
  subst hn
  have hh : w.ownsRow base E 2 (.slice (some ⟨g, 0, none⟩) ys.length cap) ys.length (ys.flatMap P2.enc) := h
  have h1 := (hh.stored (i * 2) (.int .i64 y.x)).1
  have h2 := (h1.stored (i * 2 + 1) (.int .i64 y.y)).1
  rw [flat_set] at h2
  unfold Own
  rw [List.length_set]
  exact h2
/-- A prefix is owned. -/
theorem ownsRow_prefix {size : Nat} {xs : List Value} (h : w.ownsRow base E size (.slice (some ⟨g, 0, none⟩) n cap) n xs) {m : Nat} (hm : m ≤ n) : w.ownsRow base E size (.slice (some ⟨g, 0, none⟩) m cap) m (xs.take (m * size)) := by
  rcases h with ⟨h1, ⟨h2, _⟩ | ⟨g', c, cur, h2, hb, hg, hn, hc, hs, ht⟩⟩
  · cases h2
  · cases h2
    have hle : m * size ≤ n * size := Nat.mul_le_mul_right _ hm
    refine ⟨by rw [List.length_take, h1]; omega, .inr ⟨g, cap, cur, rfl, hb, hg, by omega, hc, hs, ?_⟩⟩
    rw [← ht, List.take_take, Nat.min_eq_left hle]
theorem ownsRow_tail {size : Nat} : ∀ (vs : List Value) (o : Nat) (w : World) (xs : List Value) {m : Nat}, w.ownsRow base E size (.slice (some ⟨g, 0, none⟩) n cap) n xs → m ≤ n → m * size ≤ o →
    (w.setCells g o vs).ownsRow base E size (.slice (some ⟨g, 0, none⟩) m cap) m (xs.take (m * size)) ∧ w.grownBy (w.setCells g o vs) (some g)
  | [], o, w, xs, m, h, hm, ho => ⟨ownsRow_prefix h hm, World.grownBy.refl _ _⟩
  | v :: r, o, w, xs, m, h, hm, ho => by
    obtain ⟨h1, h2⟩ := h.stored o v
    obtain ⟨h3, h4⟩ := ownsRow_tail r (o + 1) _ _ h1 hm (by omega)
    rw [List.take_set_of_le (by omega)] at h3
    exact ⟨h3, ⟨h4.os.trans h2.os, h4.tape.trans h2.tape, h4.output.trans h2.output, Nat.le_trans h2.size h4.size, fun i hi hne => (h4.block i (Nat.lt_of_lt_of_le hi h2.size) hne).trans (h2.block i hi hne)⟩⟩
theorem flat_take (ys : List P2) (m : Nat) : (ys.flatMap P2.enc).take (m * 2) = (ys.take m).flatMap P2.enc := by
  induction ys generalizing m with
  | nil => simp
  | cons x r ih =>
    cases m with
    | zero => simp
    | succ m =>
      have := ih m
      simp only [List.flatMap_cons, P2.enc, List.cons_append, List.nil_append, List.take_succ_cons] at *
      rw [show (m + 1) * 2 = m * 2 + 1 + 1 by omega, List.take_succ_cons, List.take_succ_cons, this]
end

theorem Own.drewN {α : Type} {base : Nat} {w : World} {E k : Nat} {enc : α → List Value} {v : Value} {xs : List α} (h : Own base w E k enc v xs) (q : Nat) : Own base (w.drewN q) E k enc v xs := h
theorem beq_ne2 {x y : P2} (h : ¬ x = y) : (x.x == y.x && x.y == y.y) = false := by
  cases hb : (x.x == y.x && x.y == y.y)
  · rfl
  · rw [Bool.and_eq_true, beq_iff_eq, beq_iff_eq] at hb
    exact absurd (P2.ext' hb.1 hb.2) h

/-- clear(s) at cells. -/
theorem run_clear_cells {P : Program} (w : World) (t e ty : TypeId) (ht : P.underlying t = some (.slice e)) (hv : ∀ w, (zeroValue e).run P w = .ok (.agg #[.int .i64 0, .int .i64 0]) w) (b o n c : Nat) (hn : 0 < n)
    (hc : ∀ j, j < n * 2 → (w.cell? ⟨b, o + j, none⟩).isSome = true) (hf : ∀ j, j < n * 2 → w.frozen? ⟨b, o + j, none⟩ = false) :
    (Builtin.clear_ #[t] ty #[.slice (some ⟨b, o, none⟩) n c]).run P w = .ok (.tuple #[]) (w.setCells b o (List.replicate (n * 2) (.int .i64 0))) := by
  have hzc : (Builtin.zeroCells (Value.agg #[.int .i64 0, .int .i64 0]).cells n).toList = List.replicate (n * 2) (.int .i64 0) := by
    simp [Builtin.zeroCells, Value.cells]
    apply List.ext_getElem
    · simp
    · intro i h1 h2
      simp
      have h3 : i % 2 = 0 ∨ i % 2 = 1 := by omega
      rcases h3 with h3 | h3 <;> simp [h3]
  have hst := run_storeCells_cells (P := P) b o (List.replicate (n * 2) (.int .i64 0)) 0 w (by simpa using hc) (by simpa using hf) (by intro v hv'; rw [List.eq_of_mem_replicate hv']; rfl)
  simp only [Nat.add_zero] at hst
  obtain ⟨m, rfl⟩ : ∃ m, n = m + 1 := ⟨n - 1, by omega⟩
  simp [Builtin.clear_, run_underlying ht, hv, hzc, hst]
end Go.Proofs.Ytaimeemdmklmbaa
