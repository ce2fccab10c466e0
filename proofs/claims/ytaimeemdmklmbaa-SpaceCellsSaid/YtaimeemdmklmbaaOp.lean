/- What comes in: a recurrence and a point as the reader reads them, opened to rows of cells. -/
import Derived.Test.YtaimeemdmklmbaaLa
import Derived.Deep.Slices
import Derived.Deep.Strs
import Derived.Lib.SmallJoins
import Derived.OpenShut
set_option linter.all false
namespace Go.Proofs.Ytaimeemdmklmbaa
open Go.RowKit Go.Shelf Go.ChangeShapes Go.WideShapes

theorem cell_lt {w : World} {b o : Nat} {v : Value} (h : w.cell? ⟨b, o, none⟩ = some v) : b < w.heap.size := by
  rcases Nat.lt_or_ge b w.heap.size with h1 | h1
  · exact h1
  · have h2 : w.heap[b]? = none := by simp [h1]
    simp [World.cell?, h2] at h
section
variable {H : Type} {enc : TypeId × Value → H} {w : World} {base : Nat} {spare : Nat → Bool} {held : Bool} {fuel : Nat}
/-- A slice that the reader reads is a row. -/
theorem row_of_trod {α : Type} [Inhabited α] {P : Program} {t e k : TypeId} {encA : α → List Value} {Q : α → Prop} {cs : List Value} {x : DataW H × List MemPlace} (ht : P.underlying t = some (.slice e)) (hc : P.cellsOf e = k) (hk : 0 < k) (hlen : ∀ a, (encA a).length = k)
    (helem : ∀ n cs' y, DataW.trod enc P w base spare held n e cs' = some y → ∃ a : α, cs' = encA a ∧ Q a) (h : DataW.trod enc P w base spare held fuel t cs = some x) :
    ∃ p cap xs, cs = [.slice p xs.length cap] ∧ Row w.heap.size w p k encA xs ∧ ∀ a ∈ xs, Q a := by
  rcases Go.Deep.open_slice ht h with ⟨rfl, _⟩ | ⟨a, len, cap, m, n, D, Pl, rfl, hb, hl, hm, hmm, _, hx⟩
  · exact ⟨none, 0, [], rfl, Row.nil, by simp⟩
  · have hlm : len ≤ m := by rw [hmm]; split <;> omega
    have each : ∀ i, i < len → ∃ a' : α, w.cells? base (a.add (i * k)) k = some (encA a') ∧ Q a' := fun i hi => by
      obtain ⟨cs', h1, h2⟩ := hx i (by omega)
      obtain ⟨a', rfl, q⟩ := helem _ _ _ h2
      rw [hc] at h1
      exact ⟨a', h1, q⟩
    obtain ⟨X, hX⟩ := Go.Deep.choose_lt each
    have hXl : ((List.range len).map X).length = len := by simp
    refine ⟨some a, cap, (List.range len).map X, by rw [hXl], fun hne => ?_, fun a' ha => ?_⟩
    · have hpos : 0 < len := by
        rcases Nat.eq_zero_or_pos len with h0 | h0
        · subst h0; simp at hne
        · exact h0
      obtain ⟨b, off, spot⟩ := a
      have hcell : ∀ i, i < len → ∀ j, j < k → w.cell? ((((⟨b, off, spot⟩ : Addr).add (i * k)).add j)) = some ((encA (X i))[j]!) := fun i hi j hj => by
        rw [(World.cells?_some (hX i hi).1).2.2 j hj, getElem!_pos _ j (by rw [hlen]; exact hj)]
        exact List.getElem?_eq_getElem _
      have h00 := hcell 0 hpos 0 hk
      have hspot : spot = none := by simpa [Addr.add] using World.cell?_spot h00
      subst hspot
      have hfl : ∀ i, i < len → ∀ j, j < k → w.cell? ⟨b, off + i * k + j, none⟩ = some ((encA (X i))[j]!) := fun i hi j hj => by
        have := hcell i hi j hj
        rw [Go.Deep.add_add, Go.WideShapes.add_plain] at this
        rw [Nat.add_assoc]; exact this
      refine ⟨b, off, rfl, cell_lt (hfl 0 hpos 0 hk), fun i hi j hj => ?_⟩
      have hi' : i < len := by simpa using hi
      rw [hfl i hi' j hj, getElem!_pos _ i hi]
      simp
    · obtain ⟨i, hi, rfl⟩ := List.mem_map.1 ha
      exact (hX i (by simpa using hi)).2
theorem cells_int : Try.prog.cellsOf 3 = 1 := by kernel_rfl
theorem cells_pt : Try.prog.cellsOf 29 = 3 := by kernel_rfl
theorem cells_iq : Try.prog.cellsOf 81 = 4 := by kernel_rfl
theorem cells_ag : Try.prog.cellsOf 69 = 4 := by kernel_rfl
theorem cells_vr : Try.prog.cellsOf 47 = 7 := by kernel_rfl
theorem cells_dm : Try.prog.cellsOf 24 = 2 := by kernel_rfl
theorem cells_rc : Try.prog.cellsOf 27 = 3 := by kernel_rfl
theorem cells_st : Try.prog.cellsOf 9 = 1 := by kernel_rfl
theorem cells_vs : Try.prog.cellsOf 25 = 1 := by kernel_rfl
theorem cells_is : Try.prog.cellsOf 22 = 1 := by kernel_rfl
theorem cells_as : Try.prog.cellsOf 44 = 1 := by kernel_rfl
theorem cells_i4 : Try.prog.cellsOf 45 = 4 := by kernel_rfl
theorem list3 {α : Type} {l : List α} (h : l.length = 3) : ∃ a b c, l = [a, b, c] := match l, h with | [a, b, c], _ => ⟨a, b, c, rfl⟩
theorem list4 {α : Type} {l : List α} (h : l.length = 4) : ∃ a b c d, l = [a, b, c, d] := match l, h with | [a, b, c, d], _ => ⟨a, b, c, d, rfl⟩
theorem list7 {α : Type} {l : List α} (h : l.length = 7) : ∃ a b c d e f g, l = [a, b, c, d, e, f, g] := match l, h with | [a, b, c, d, e, f, g], _ => ⟨a, b, c, d, e, f, g, rfl⟩
theorem elem_int {cs : List Value} {x : DataW H × List MemPlace} (h : DataW.trod enc Try.prog w base spare held fuel 3 cs = some x) : ∃ n : Int, cs = [.int .i64 n] := by
  obtain ⟨n, rfl, _⟩ := DataW.trod_int Try.underlying3 h
  exact ⟨n, rfl⟩
set_option maxRecDepth 100000 in
theorem elem_pt {cs : List Value} {x : DataW H × List MemPlace} (h : DataW.trod enc Try.prog w base spare held fuel 29 cs = some x) : ∃ p : P3, cs = P3.enc p := by
  have h0 := h
  obtain ⟨xs, m, _, _, hl, _⟩ := DataW.trod_array Try.underlying29 h0
  have hl3 := hl.trans cells_pt
  obtain ⟨a, b, c, rfl⟩ := list3 hl3
  obtain ⟨y0, y1, y2, n, _, g0, g1, g2⟩ := trod_array3 Try.underlying29 cells_int h
  obtain ⟨a', e0⟩ := elem_int g0
  obtain ⟨b', e1⟩ := elem_int g1
  obtain ⟨c', e2⟩ := elem_int g2
  simp only [List.cons.injEq, and_true] at e0 e1 e2
  exact ⟨⟨a', b', c'⟩, by rw [e0, e1, e2]; rfl⟩
set_option maxRecDepth 100000 in
theorem elem_iq {cs : List Value} {x : DataW H × List MemPlace} (h : DataW.trod enc Try.prog w base spare held fuel 81 cs = some x) : ∃ q : Iq, cs = Iq.enc q := by
  obtain ⟨y0, y1, n, _, hl, h0, h1⟩ := trod_struct2 Try.underlying81 h
  obtain ⟨a, b, c, d, rfl⟩ := list4 (hl.trans cells_iq)
  have k0 : DataW.trod enc Try.prog w base spare held n 29 [a, b, c] = some y0 := by have := h0; rw [show _ = 3 from cells_pt] at this; exact this
  have k1 : DataW.trod enc Try.prog w base spare held n 3 [d] = some y1 := by have := h1; rw [show _ = 1 from cells_int] at this; exact this
  obtain ⟨p, e0⟩ := elem_pt k0
  obtain ⟨z, e1⟩ := elem_int k1
  simp only [P3.enc, List.cons.injEq, and_true] at e0 e1
  obtain ⟨rfl, rfl, rfl⟩ := e0
  subst e1
  exact ⟨⟨p, z⟩, rfl⟩
set_option maxRecDepth 100000 in
theorem elem_ag {cs : List Value} {x : DataW H × List MemPlace} (h : DataW.trod enc Try.prog w base spare held fuel 69 cs = some x) : ∃ q : Ag, cs = Ag.enc q := by
  obtain ⟨y0, y1, n, _, hl, h0, h1⟩ := trod_struct2 Try.underlying69 h
  obtain ⟨a, b, c, d, rfl⟩ := list4 (hl.trans cells_ag)
  have k0 : DataW.trod enc Try.prog w base spare held n 3 [a] = some y0 := by have := h0; rw [show _ = 1 from cells_int] at this; exact this
  have k1 : DataW.trod enc Try.prog w base spare held n 29 [b, c, d] = some y1 := by have := h1; rw [show _ = 3 from cells_pt] at this; exact this
  obtain ⟨z, e0⟩ := elem_int k0
  obtain ⟨p, e1⟩ := elem_pt k1
  simp only [P3.enc, List.cons.injEq, and_true] at e0 e1
  obtain ⟨rfl, rfl, rfl⟩ := e1
  subst e0
  exact ⟨⟨z, p⟩, rfl⟩
set_option maxRecDepth 100000 in
theorem elem_vr {cs : List Value} {x : DataW H × List MemPlace} (h : DataW.trod enc Try.prog w base spare held fuel 47 cs = some x) : ∃ v : Vr, cs = Vr.enc v ∧ Row w.heap.size w v.ap 4 Ag.enc v.args := by
  obtain ⟨y0, y1, y2, y3, n, _, hl, h0, h1, h2, h3⟩ := Go.Joins.trod_struct4 Try.underlying47 h
  obtain ⟨a, b, c, d0, d1, d2, d3, rfl⟩ := list7 (hl.trans cells_vr)
  have k0 : DataW.trod enc Try.prog w base spare held n 9 [a] = some y0 := by have := h0; rw [show _ = 1 from cells_st] at this; exact this
  have k1 : DataW.trod enc Try.prog w base spare held n 3 [b] = some y1 := by have := h1; rw [show _ = 1 from cells_int] at this; exact this
  have k2 : DataW.trod enc Try.prog w base spare held n 44 [c] = some y2 := by have := h2; rw [show _ = 1 from cells_as] at this; exact this
  have k3 : DataW.trod enc Try.prog w base spare held n 45 [d0, d1, d2, d3] = some y3 := by have := h3; rw [show _ = 4 from cells_i4] at this; exact this
  obtain ⟨s, e0, _⟩ := DataW.trod_string Try.underlying9 k0
  obtain ⟨o, e1⟩ := elem_int k1
  obtain ⟨p, cap, xs, e2, hr, _⟩ := row_of_trod (encA := Ag.enc) (Q := fun _ => True) Try.underlying44 cells_ag (by decide) (fun _ => rfl) (fun _ _ _ hh => let ⟨q, hq⟩ := elem_ag hh; ⟨q, hq, trivial⟩) k2
  obtain ⟨z0, z1, z2, z3, m, _, g0, g1, g2, g3⟩ := trod_array4 Try.underlying45 cells_int k3
  obtain ⟨i0, f0⟩ := elem_int g0
  obtain ⟨i1, f1⟩ := elem_int g1
  obtain ⟨i2, f2⟩ := elem_int g2
  obtain ⟨i3, f3⟩ := elem_int g3
  simp only [List.cons.injEq, and_true] at e0 e1 e2 f0 f1 f2 f3
  subst e0 e1 e2 f0 f1 f2 f3
  exact ⟨⟨s, o, p, cap, xs, i0, i1, i2, i3⟩, rfl, hr⟩
set_option maxRecDepth 100000 in
/-- A recurrence that comes in, opened. -/
theorem open_rec {r : Reach} {b0 : Nat} {v : Value} {d : DataW H} {ps : List MemPlace} (hv : Value.okWide Try.prog w r b0 27 v) (h : DataW.Trod enc Try.prog w base spare held 27 v d ps) :
    ∃ (n : Int) (p : Option Addr) (l : List Iq) (c : Nat) (pv : Option Addr) (vs : List Vr) (cv : Nat), v = .agg #[.int .i64 n, .slice p l.length c, .slice pv vs.length cv] ∧ RawOf w.heap.size w p l pv vs := by
  obtain ⟨cs, rfl, hsz⟩ := okWide_struct Try.underlying27 hv
  obtain ⟨l0⟩ := cs
  obtain ⟨a, b, c, rfl⟩ := list3 (l := l0) (hsz.trans cells_rc)
  obtain ⟨fuel, hf⟩ := h
  obtain ⟨y0, y1, n, _, _, h0, h1⟩ := trod_struct2 Try.underlying27 hf
  have k0 : DataW.trod enc Try.prog w base spare held n 24 [a, b] = some y0 := by have := h0; rw [show _ = 2 from cells_dm] at this; exact this
  have k1 : DataW.trod enc Try.prog w base spare held n 25 [c] = some y1 := by have := h1; rw [show _ = 1 from cells_vs] at this; exact this
  obtain ⟨z0, z1, m, _, _, g0, g1⟩ := trod_struct2 Try.underlying24 k0
  have j0 : DataW.trod enc Try.prog w base spare held m 3 [a] = some z0 := by have := g0; rw [show _ = 1 from cells_int] at this; exact this
  have j1 : DataW.trod enc Try.prog w base spare held m 22 [b] = some z1 := by have := g1; rw [show _ = 1 from cells_is] at this; exact this
  obtain ⟨nn, e0⟩ := elem_int j0
  obtain ⟨p, cap, l, e1, hr1, _⟩ := row_of_trod (encA := Iq.enc) (Q := fun _ => True) Try.underlying22 cells_iq (by decide) (fun _ => rfl) (fun _ _ _ hh => let ⟨q, hq⟩ := elem_iq hh; ⟨q, hq, trivial⟩) j1
  obtain ⟨pv, cv, vs, e2, hr2, hq2⟩ := row_of_trod (encA := Vr.enc) (Q := fun v => Row w.heap.size w v.ap 4 Ag.enc v.args) Try.underlying25 cells_vr (by decide) (fun _ => rfl) (fun _ _ _ hh => elem_vr hh) k1
  simp only [List.cons.injEq, and_true] at e0 e1 e2
  subst e0 e1 e2
  exact ⟨nn, p, l, cap, pv, vs, cv, rfl, ⟨hr1, hr2, hq2⟩⟩
set_option maxRecDepth 100000 in
/-- A point that comes in, opened. -/
theorem open_pt {r : Reach} {b0 : Nat} {v : Value} {d : DataW H} {ps : List MemPlace} (hv : Value.okWide Try.prog w r b0 29 v) (h : DataW.Trod enc Try.prog w base spare held 29 v d ps) :
    ∃ u : P3, v = .agg #[.int .i64 u.x, .int .i64 u.y, .int .i64 u.z] := by
  have hv' := hv
  simp only [Value.okWide, Try.underlying29] at hv'
  obtain ⟨cs, rfl, hsz, _⟩ := hv'
  obtain ⟨fuel, hf⟩ := h
  obtain ⟨u, hu⟩ := elem_pt hf
  refine ⟨u, ?_⟩
  have : cs.toList = P3.enc u := hu
  obtain ⟨l⟩ := cs
  simp only at this
  rw [this]
  rfl
end
end Go.Proofs.Ytaimeemdmklmbaa
