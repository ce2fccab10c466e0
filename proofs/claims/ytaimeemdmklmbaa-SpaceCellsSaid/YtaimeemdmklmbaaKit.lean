/- More words on worlds, blocks and rows: each carries over a call. -/
import Derived.Test.YtaimeemdmklmbaaCount
import Derived.Test.YtaimeemdmklmbaaMp
import Derived.Test.YtaimeemdmklmbaaSrt
import Derived.Deep.AppendLies
set_option linter.all false
namespace Go.Proofs.Ytaimeemdmklmbaa
open Go.RowKit Go.Shelf

section
variable {w w' : World} {B n0 : Nat} {t : TypeId} {cs : Array Value}
theorem Block.below (h : Block w B t cs) (hb : Below n0 w w') (hn : B < n0) : Block w' B t cs := (hb.block B hn).trans h
theorem Block.call (h : Block w B t cs) (hb : Below w.heap.size w w') : Block w' B t cs := h.below hb h.lt
theorem Block.at (h : Block w B t cs) (i : Nat) {v : Value} (hv : cs[i]? = some v) : w.cell? ⟨B, i, none⟩ = some v := (h.cell i).trans hv
theorem Block.alloc (h : Block w B t cs) (o : Obj) : Block (w.alloc o) B t cs := (Below.heap_alloc w o B h.lt).trans h
theorem Block.make (t : TypeId) (cs : Array Value) (h : w.heap.size = B) : Block (w.alloc (.cells cs t)) B t cs := by subst h; exact Block.new w t cs
theorem Block.drewN (h : Block w B t cs) (q : Nat) : Block (w.drewN q) B t cs := h
theorem Block.drew (h : Block w B t cs) : Block w.drew B t cs := h
/-- A cell of the block is written. -/
theorem Block.set (h : Block w B t cs) (i : Nat) (u : Value) (hi : i < cs.size) : Block (w.setCell ⟨B, i, none⟩ u) B t (cs.setIfInBounds i u) := by
  have h0 : w.heap[B]? = some (.cells cs t (0, 0)) := h
  unfold Block
  simp only [World.setCell, Array.getElem?_modify, if_true, h0]
  rfl
theorem Block.other (h : Block w B t cs) {a : Addr} (ha : B ≠ a.block) (u : Value) : Block (w.setCell a u) B t cs := (Below.heap_setCell w a u B ha).trans h
end
section
variable {α : Type} [Inhabited α] {base B : Nat} {w w' : World} {p : Option Addr} {E k : Nat} {enc : α → List Value} {v : Value} {xs : List α}
theorem Row.call (h : Row w.heap.size w p k enc xs) (hb : Below w.heap.size w w') : Row w'.heap.size w' p k enc xs := (h.below hb (Nat.le_refl _)).mono hb.size
theorem Own.call (h : Own base w E k enc v xs) (hb : Below w.heap.size w w') : Own base w' E k enc v xs := h.below hb (Nat.le_refl _)
end
section
variable {B : Nat} {w : World} {p : Option Addr} {i : Nat}
theorem Row.pt {xs : List P3} (h : Row B w p 3 P3.enc xs) (hi : i < xs.length) : ∃ b off, p = some ⟨b, off, none⟩ ∧ b < B ∧ w.cell? ⟨b, off + i * 3, none⟩ = some (.int .i64 (xs[i]!).x) ∧ w.cell? ⟨b, off + i * 3 + 1, none⟩ = some (.int .i64 (xs[i]!).y) ∧ w.cell? ⟨b, off + i * 3 + 2, none⟩ = some (.int .i64 (xs[i]!).z) := by
  obtain ⟨b, off, hp, hb, hc⟩ := h.at hi
  exact ⟨b, off, hp, hb, hc 0 (by decide), hc 1 (by decide), hc 2 (by decide)⟩
theorem Row.cl {xs : List P2} (h : Row B w p 2 P2.enc xs) (hi : i < xs.length) : ∃ b off, p = some ⟨b, off, none⟩ ∧ b < B ∧ w.cell? ⟨b, off + i * 2, none⟩ = some (.int .i64 (xs[i]!).x) ∧ w.cell? ⟨b, off + i * 2 + 1, none⟩ = some (.int .i64 (xs[i]!).y) := by
  obtain ⟨b, off, hp, hb, hc⟩ := h.at hi
  exact ⟨b, off, hp, hb, hc 0 (by decide), hc 1 (by decide)⟩
theorem Row.ag {xs : List Ag} (h : Row B w p 4 Ag.enc xs) (hi : i < xs.length) : ∃ b off, p = some ⟨b, off, none⟩ ∧ b < B ∧ w.cell? ⟨b, off + i * 4, none⟩ = some (.int .i64 (xs[i]!).v) ∧ w.cell? ⟨b, off + i * 4 + 1, none⟩ = some (.int .i64 (xs[i]!).p.x) ∧ w.cell? ⟨b, off + i * 4 + 2, none⟩ = some (.int .i64 (xs[i]!).p.y) ∧ w.cell? ⟨b, off + i * 4 + 3, none⟩ = some (.int .i64 (xs[i]!).p.z) := by
  obtain ⟨b, off, hp, hb, hc⟩ := h.at hi
  exact ⟨b, off, hp, hb, hc 0 (by decide), hc 1 (by decide), hc 2 (by decide), hc 3 (by decide)⟩
theorem Row.vr {xs : List Vr} (h : Row B w p 7 Vr.enc xs) (hi : i < xs.length) : ∃ b off, p = some ⟨b, off, none⟩ ∧ b < B ∧ w.cell? ⟨b, off + i * 7, none⟩ = some (.string (xs[i]!).name) ∧ w.cell? ⟨b, off + i * 7 + 1, none⟩ = some (.int .i64 (xs[i]!).op) ∧ w.cell? ⟨b, off + i * 7 + 2, none⟩ = some (.slice (xs[i]!).ap (xs[i]!).args.length (xs[i]!).ac) ∧
    w.cell? ⟨b, off + i * 7 + 3, none⟩ = some (.int .i64 (xs[i]!).i0) ∧ w.cell? ⟨b, off + i * 7 + 4, none⟩ = some (.int .i64 (xs[i]!).i1) ∧ w.cell? ⟨b, off + i * 7 + 5, none⟩ = some (.int .i64 (xs[i]!).i2) ∧ w.cell? ⟨b, off + i * 7 + 6, none⟩ = some (.int .i64 (xs[i]!).i3) := by
  obtain ⟨b, off, hp, hb, hc⟩ := h.at hi
  exact ⟨b, off, hp, hb, hc 0 (by decide), hc 1 (by decide), hc 2 (by decide), hc 3 (by decide), hc 4 (by decide), hc 5 (by decide), hc 6 (by decide)⟩
theorem Row.one {xs : List Int} (h : Row B w p 1 intEnc xs) (hi : i < xs.length) : ∃ b off, p = some ⟨b, off, none⟩ ∧ b < B ∧ w.cell? ⟨b, off + i, none⟩ = some (.int .i64 xs[i]!) := by
  obtain ⟨b, off, hp, hb, hc⟩ := h.at hi
  exact ⟨b, off, hp, hb, by simpa [intEnc] using hc 0 (by decide)⟩
end
theorem below_drewN {B : Nat} {a w : World} (h : Below B a w) (n : Nat) : Below B a (w.drewN n) := h.trans ⟨rfl, rfl, rfl, Nat.le_refl _, fun _ _ => rfl⟩
theorem take_snoc {α : Type} [Inhabited α] {xs : List α} {k : Nat} (h : k < xs.length) : xs.take (k + 1) = xs.take k ++ [xs[k]!] := by
  rw [List.take_succ_eq_append_getElem h, getElem!_pos xs k h]
theorem ret_pair {v : Value} {a b : Bool} (h : a = b) : Ending.returned (.tuple #[v, .bool a]) = .returned (.tuple #[v, .bool b]) := by rw [h]
theorem ret_ints {a b c d : Int} (h : a = c) (h2 : b = d) : Ending.returned (.tuple #[.int .i64 a, .int .i64 b]) = .returned (.tuple #[.int .i64 c, .int .i64 d]) := by rw [h, h2]
theorem ret_p2 {a b c d : Int} (h : a = c) (h2 : b = d) : Ending.returned (.agg #[.int .i64 a, .int .i64 b]) = .returned (.agg #[.int .i64 c, .int .i64 d]) := by rw [h, h2]

/-- 'out = append(out, y)' at a slice that is owned, at a step of a region that draws its order. -/
theorem step_own {α : Type} [Inhabited α] {base : Nat} {w : World} {E k : Nat} {enc : α → List Value} {v : Value} {xs : List α} {P : Program} {ops : Array Oper} {o : Oper} {a : Act} {K : Act → World → Prop} {Q : Exit → Act → World → Prop} {G : Prop} (hgd : o.guard = none) (s x : Operand) (t : TypeId)
    (ho : o.op = .call { callee := .builtin .append, args := #[s, x], argTypes := #[t, t] }) (i : TypeInfo) (z : Value) (bytes : Nat) (ht : P.underlying t = some (.slice E)) (hi : P.info? E = some i) (hz : i.zero = some z)
    (hsize : i.size = k) (hby : i.bytes = bytes) (hzs : z.cells.size = k) (hsz : 0 < k) (hs : a.eval s = v) (hown : Own base w E k enc v xs) (y : α) (hk : (enc y).length = k) (h1 : ∀ u ∈ enc y, u.oneCell' = true)
    (A : Nat) (hx : a.eval x = .slice (some ⟨A, 0, none⟩) 1 1) (hA : ∀ j u, (enc y)[j]? = some u → w.cell? ⟨A, j, none⟩ = some u) (hlen : (xs.length + 1) * bytes ≤ 140737488355328 ∧ xs.length + 1 ≤ maxLen) (hbase : base ≤ w.heap.size)
    (h : ∀ v' w', Own base w' E k enc v' (xs ++ [y]) → Below base w w' → w.grownBy w' v.ownBlock → K (a.put o.dst v') w') :
    if Region.wanted o (yielded ops a.tmps) = true then Oper.wp P o a w K Q else G :=
  step_append_lies w hgd s x t ho base E i z k bytes ht hi hz hsize hby hzs hsz v xs.length (xs.flatMap enc) hs hown ⟨A, 0, none⟩ 1 1 (enc y) hx (by rw [hk, Nat.one_mul])
    (fun j u hj => by
      have : (⟨A, 0, none⟩ : Addr).add j = ⟨A, j, none⟩ := by unfold Addr.add; split <;> simp_all
      rw [this]; exact hA j u hj) h1 Nat.one_pos hlen.2 hlen.1 hbase w.heap.size rfl fun g cap w' h2 h3 _ _ => h _ w' (Own.step hown h2 h3 hbase).1 (Own.step hown h2 h3 hbase).2 h3
/-- 'out = append(out, y)' at a slice that is owned: for the walk; nothing but its own row may have been written. -/
theorem wpList_own' {α : Type} [Inhabited α] {base : Nat} {w : World} {E k : Nat} {enc : α → List Value} {v : Value} {xs : List α} {P : Program} {ops : Array Oper} {rest : List Oper} {o : Oper} {a : Act} {Q : Exit → Act → World → Prop} (hgd : o.guard = none) (s x : Operand) (t : TypeId)
    (ho : o.op = .call { callee := .builtin .append, args := #[s, x], argTypes := #[t, t] }) (i : TypeInfo) (z : Value) (bytes : Nat) (ht : P.underlying t = some (.slice E)) (hi : P.info? E = some i) (hz : i.zero = some z)
    (hsize : i.size = k) (hby : i.bytes = bytes) (hzs : z.cells.size = k) (hsz : 0 < k) (hs : a.eval s = v) (hown : Own base w E k enc v xs) (y : α) (hk : (enc y).length = k) (h1 : ∀ u ∈ enc y, u.oneCell' = true)
    (A : Nat) (hx : a.eval x = .slice (some ⟨A, 0, none⟩) 1 1) (hA : ∀ j u, (enc y)[j]? = some u → w.cell? ⟨A, j, none⟩ = some u) (hlen : (xs.length + 1) * bytes ≤ 140737488355328 ∧ xs.length + 1 ≤ maxLen) (hbase : base ≤ w.heap.size)
    (h : ∀ v' w', Own base w' E k enc v' (xs ++ [y]) → Below base w w' → w.grownBy w' v.ownBlock → wpList P ops Q rest (a.put o.dst v') w') : wpList P ops Q (o :: rest) a w :=
  wpList_append_own w hgd s x t ho base E i z k bytes ht hi hz hsize hby hzs hsz v xs.length (xs.flatMap enc) hs hown ⟨A, 0, none⟩ 1 1 (enc y) hx (by rw [hk, Nat.one_mul])
    (fun j u hj => by
      have : (⟨A, 0, none⟩ : Addr).add j = ⟨A, j, none⟩ := by unfold Addr.add; split <;> simp_all
      rw [this]; exact hA j u hj) h1 hlen.2 hlen.1 hbase fun v' w' h2 h3 _ => h v' w' (Own.step hown h2 h3 hbase).1 (Own.step hown h2 h3 hbase).2 h3
/-- A row of one element type is kept while a row of another one grows. -/
theorem Own.apart {α β : Type} [Inhabited α] [Inhabited β] {b b' : Nat} {w w1 : World} {E E' k k' : Nat} {enc : α → List Value} {enc' : β → List Value} {v v' : Value} {xs : List α} {ys : List β} (h : Own b w E k enc v xs) (h' : Own b' w E' k' enc' v' ys) (hne : E ≠ E') (hg : w.grownBy w1 v'.ownBlock) : Own b w1 E k enc v xs := by
  refine World.ownsRow.kept h hg ?_
  rcases h.2 with ⟨rfl, _⟩ | ⟨g, cap, cur, rfl, _, hgb, _⟩
  · exact .inl rfl
  · refine .inr fun e => ?_
    rcases h'.2 with ⟨rfl, _⟩ | ⟨g', cap', cur', rfl, _, hgb', _⟩
    · simp [Value.ownBlock] at e
    · obtain rfl : g = g' := by simpa [Value.ownBlock] using e
      rw [hgb] at hgb'
      simp only [Option.some.injEq, Obj.cells.injEq] at hgb'
      exact hne hgb'.2.1
/-- A slice value. -/
theorem Own.form {α : Type} [Inhabited α] {b : Nat} {w : World} {E k : Nat} {enc : α → List Value} {v : Value} {xs : List α} (h : Own b w E k enc v xs) : ∃ p cap, v = .slice p xs.length cap := by
  rcases h.2 with ⟨rfl, h0⟩ | ⟨g, cap, cur, rfl, _⟩
  · exact ⟨none, 0, by rw [h0]⟩
  · exact ⟨_, cap, rfl⟩
theorem Own.above {α : Type} [Inhabited α] {b : Nat} {w : World} {E k : Nat} {enc : α → List Value} {v : Value} {xs : List α} (h : Own b w E k enc v xs) {b' : Nat} (hb : b' ≤ b) : Own b' w E k enc v xs := h.mono hb
end Go.Proofs.Ytaimeemdmklmbaa
