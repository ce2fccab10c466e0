/- Slices that a call has made itself: they own their elements; what they own can be read; an element is appended. -/
import Derived.Test.YtaimeemdmklmbaaBase
import Derived.Maps.AppendAt
import Derived.OwnWalk
set_option linter.all false
namespace Go.Proofs.Ytaimeemdmklmbaa
open Go.RowKit

/-- The slice value v owns the elements xs, of k cells each and of the type numbered E, in a block from base on. -/
def Own {α : Type} (base : Nat) (w : World) (E k : Nat) (enc : α → List Value) (v : Value) (xs : List α) : Prop := w.ownsRow base E k v xs.length (xs.flatMap enc)

section
variable {α : Type} [Inhabited α] {base : Nat} {w w' : World} {E k : Nat} {enc : α → List Value} {v : Value} {xs : List α}
theorem Own.nil (base : Nat) (w : World) (E k : Nat) (enc : α → List Value) : Own base w E k enc (.slice none 0 0) [] := World.ownsRow_nil _ _ _ _
theorem grown_of_below {n : Nat} (h : Below n w w') (hn : w.heap.size ≤ n) : w.grownBy w' none := ⟨h.os, h.tape, h.output, h.size, fun i hi _ => h.block i (Nat.lt_of_lt_of_le hi hn)⟩
theorem Own.below (h : Own base w E k enc v xs) {n : Nat} (hb : Below n w w') (hn : w.heap.size ≤ n) : Own base w' E k enc v xs :=
  World.ownsRow.kept h (grown_of_below hb hn) (by cases v.ownBlock <;> simp)
theorem Own.alloc (h : Own base w E k enc v xs) (o : Obj) : Own base (w.alloc o) E k enc v xs := World.ownsRow.alloc h o
theorem Own.mono (h : Own base w E k enc v xs) {base' : Nat} (hb : base' ≤ base) : Own base' w E k enc v xs := by
  obtain ⟨hl, h0 | ⟨g, cap, cur, hv, hg, hr⟩⟩ := h
  · exact ⟨hl, .inl h0⟩
  · exact ⟨hl, .inr ⟨g, cap, cur, hv, Nat.le_trans hb hg, hr⟩⟩
theorem Own.drew (h : Own base w E k enc v xs) : Own base w.drew E k enc v xs := h

theorem flat_get (hk : ∀ x, (enc x).length = k) : ∀ (xs : List α) (i j : Nat), i < xs.length → j < k → (xs.flatMap enc)[i * k + j]? = some ((enc xs[i]!)[j]!)
  | [], i, _, hi, _ => by simp at hi
  | x :: r, 0, j, _, hj => by
    rw [List.flatMap_cons, List.getElem?_append_left (by rw [hk]; omega)]
    simp only [Nat.zero_mul, Nat.zero_add]
    have hj' : j < (enc x).length := by rw [hk]; exact hj
    rw [List.getElem?_eq_getElem hj']
    simp [hj']
  | x :: r, i + 1, j, hi, hj => by
    rw [List.flatMap_cons, List.getElem?_append_right (by rw [hk, Nat.add_mul]; omega), hk]
    have h : (i + 1) * k + j - k = i * k + j := by rw [Nat.add_mul]; omega
    rw [h, flat_get hk r i j (by simpa using hi) hj]
    simp

/-- What is owned can be read. -/
theorem Own.row (h : Own base w E k enc v xs) (hk : ∀ x, (enc x).length = k) : ∃ p cap, v = .slice p xs.length cap ∧ Row w.heap.size w p k enc xs := by
  obtain ⟨hl, ⟨rfl, h0⟩ | ⟨g, cap, cur, rfl, hb, hg, hn, hm, hs, ht⟩⟩ := h
  · have : xs = [] := List.eq_nil_of_length_eq_zero h0
    subst this
    exact ⟨none, 0, rfl, Row.nil⟩
  · refine ⟨_, cap, rfl, fun _ => ⟨g, 0, rfl, ?_, fun i hi j hj => ?_⟩⟩
    · exact (Array.getElem?_eq_some_iff.1 hg).1
    · have hlt : i * k + j < xs.length * k := by
        have : (i + 1) * k ≤ xs.length * k := Nat.mul_le_mul_right k hi
        rw [Nat.add_mul] at this
        omega
      have h1 := flat_get hk xs i j hi hj
      rw [← ht, List.getElem?_take, if_pos hlt] at h1
      simp only [World.cell?, hg, Nat.zero_add]
      simpa using h1
/-- Where what is owned begins. -/
theorem Own.head (h : Own base w E k enc v xs) (hx : xs ≠ []) : ∃ g cap, v = .slice (some ⟨g, 0, none⟩) xs.length cap ∧ base ≤ g ∧ g < w.heap.size := by
  obtain ⟨hl, ⟨rfl, h0⟩ | ⟨g, cap, cur, rfl, hb, hg, _⟩⟩ := h
  · exact absurd (List.eq_nil_of_length_eq_zero h0) hx
  · exact ⟨g, cap, rfl, hb, (Array.getElem?_eq_some_iff.1 hg).1⟩
/-- Behind the append of one element. -/
theorem Own.step {v' : Value} {w1 : World} {x : α} (h : Own base w E k enc v xs) (h1 : w1.ownsRow base E k v' (xs.length + 1) (xs.flatMap enc ++ enc x)) (hg : w.grownBy w1 v.ownBlock) (hb : base ≤ w.heap.size) :
    Own base w1 E k enc v' (xs ++ [x]) ∧ Below base w w1 := by
  refine ⟨by unfold Own; simpa [List.flatMap_append] using h1, (Below.refl _ _).grown hg hb fun j hj => (h.lt j hj).1⟩
/-- 'out = append(out, y)' at a slice that is owned: for the walk. The new element lies in the block 'A' that the walk has just made. -/
theorem wpList_own {P : Program} {ops : Array Oper} {rest : List Oper} {o : Oper} {a : Act} {Q : Exit → Act → World → Prop} (hgd : o.guard = none) (s x : Operand) (t : TypeId)
    (ho : o.op = .call { callee := .builtin .append, args := #[s, x], argTypes := #[t, t] }) (i : TypeInfo) (z : Value) (bytes : Nat) (ht : P.underlying t = some (.slice E)) (hi : P.info? E = some i) (hz : i.zero = some z)
    (hsize : i.size = k) (hby : i.bytes = bytes) (hzs : z.cells.size = k) (hsz : 0 < k) (hs : a.eval s = v) (hown : Own base w E k enc v xs) (y : α) (hk : (enc y).length = k) (h1 : ∀ u ∈ enc y, u.oneCell' = true)
    (A : Nat) (hx : a.eval x = .slice (some ⟨A, 0, none⟩) 1 1) (hA : ∀ j u, (enc y)[j]? = some u → w.cell? ⟨A, j, none⟩ = some u) (hlen : (xs.length + 1) * bytes ≤ 140737488355328 ∧ xs.length + 1 ≤ maxLen) (hbase : base ≤ w.heap.size)
    (h : ∀ v' w', Own base w' E k enc v' (xs ++ [y]) → Below base w w' → wpList P ops Q rest (a.put o.dst v') w') : wpList P ops Q (o :: rest) a w :=
  wpList_append_own w hgd s x t ho base E i z k bytes ht hi hz hsize hby hzs hsz v xs.length (xs.flatMap enc) hs hown ⟨A, 0, none⟩ 1 1 (enc y) hx (by rw [hk, Nat.one_mul])
    (fun j u hj => by
      have : (⟨A, 0, none⟩ : Addr).add j = ⟨A, j, none⟩ := by unfold Addr.add; split <;> simp_all
      rw [this]; exact hA j u hj) h1 hlen.2 hlen.1 hbase fun v' w' h2 h3 _ => h v' w' (Own.step hown h2 h3 hbase).1 (Own.step hown h2 h3 hbase).2
end
/-- The cells of a block that has just been made. -/
theorem new_cells {w : World} {l : List Value} {t : TypeId} : ∀ j u, l[j]? = some u → (w.alloc (.cells l.toArray t)).cell? ⟨w.heap.size, j, none⟩ = some u := fun j u h => by
  rw [World.cell?_alloc_new]; simpa using h
end Go.Proofs.Ytaimeemdmklmbaa
