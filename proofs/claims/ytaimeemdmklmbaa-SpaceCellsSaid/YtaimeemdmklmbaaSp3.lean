/- A recurrence along a direction: what space.look returns. -/
import Derived.Test.YtaimeemdmklmbaaSp1
import Derived.Test.YtaimeemdmklmbaaRec3
set_option linter.all false
namespace Go.Proofs.Ytaimeemdmklmbaa
open Go.RowKit Go.Shelf

/-- The error of a recurrence and a direction. -/
def askE (n : Int) (l : List Iq) (vs : List Vr) (u : P3) : Int := if recB n l vs = true then (if 0 ≤ axisOf n u then 0 else 40) else 20
theorem askE_zero {n : Int} {l : List Iq} {vs : List Vr} {u : P3} (h : askE n l vs u = 0) : recB n l vs = true ∧ 0 ≤ axisOf n u := by
  unfold askE at h
  split at h
  · split at h
    · exact ⟨by assumption, by assumption⟩
    · omega
  · omega

/-- The cells of a view. -/
def viewCells (n k : Int) (u : P3) (p : Option Addr) (ln c : Nat) (pv : Option Addr) (vn cv : Nat) (q : Option Addr) (qn qc : Nat) : Array Value :=
  #[.int .i64 n, .int .i64 k, .int .i64 u.x, .int .i64 u.y, .int .i64 u.z, .int .i64 n, .slice p ln c, .slice pv vn cv, .slice q qn qc]
/-- A view lies at block B. -/
structure ViewAt (w : World) (B : Nat) (n : Int) (u : P3) (p : Option Addr) (c : Nat) (l : List Iq) (pv : Option Addr) (cv : Nat) (vs : List Vr) : Prop where
  ex : ∃ q qc, Block w B 65 (viewCells n (axisOf n u) u p l.length c pv vs.length cv q (ptsOf n l).length qc) ∧ Row w.heap.size w q 3 P3.enc (ptsOf n l)
theorem ViewAt.call {w w' : World} {B : Nat} {n : Int} {u : P3} {p : Option Addr} {c : Nat} {l : List Iq} {pv : Option Addr} {cv : Nat} {vs : List Vr} (h : ViewAt w B n u p c l pv cv vs) (hb : Below w.heap.size w w') : ViewAt w' B n u p c l pv cv vs := by
  obtain ⟨q, qc, h1, h2⟩ := h.ex
  exact ⟨q, qc, h1.call hb, h2.call hb⟩

/-- What newFold returns. -/
def FoldIs (n : Int) (u : P3) (w : World) (e : Ending) (w' : World) : Prop := (∃ k : Int, e = .returned (.tuple #[.agg #[.int .i64 n, .int .i64 k, .int .i64 u.x, .int .i64 u.y, .int .i64 u.z], .bool (decide (0 ≤ axisOf n u))]) ∧ (0 ≤ axisOf n u → k = axisOf n u)) ∧ Below w.heap.size w w'
set_option maxHeartbeats 1000000 in
theorem newFold_space (n : Int) (u : P3) (w : World) : Calls Try.prog 44 #[.int .i64 n, .agg #[.int .i64 u.x, .int .i64 u.y, .int .i64 u.z]] w (FoldIs n u w) := by
  generalize hd : decide (0 ≤ axisOf n u) = d
  obtain ⟨W0, hW0⟩ : ∃ W0, W0 = (w.alloc (.cells #[.int .i64 u.x, .int .i64 u.y, .int .i64 u.z] 29)).alloc (.cells #[.int .i64 0, .int .i64 0, .int .i64 0, .int .i64 0, .int .i64 0] 63) := ⟨_, rfl⟩
  have hb0 : Below w.heap.size w W0 := by rw [hW0]; go_grown
  have k0 : Block W0 w.heap.size 29 #[.int .i64 u.x, .int .i64 u.y, .int .i64 u.z] := by rw [hW0]; exact (Block.new _ _ _).alloc _
  have k1 : Block W0 (w.heap.size + 1) 63 #[.int .i64 0, .int .i64 0, .int .i64 0, .int .i64 0, .int .i64 0] := by rw [hW0]; exact Block.make _ _ (by simp)
  have HW0 := Lib.hid hW0
  clear hW0
  go_enter Try.func44, Try.ntmps44
  go_wp2_with fail
  rw [← HW0.out]
  refine (axis_space n u W0).mono ?_
  rintro e w1 ⟨⟨k, rfl, hk⟩, hb⟩
  rw [hd]
  have hb1 := via hb0 hb
  have j0 := k0.call hb
  have j1 := k1.call hb
  have c0 := j0.cell
  have c1 := j1.cell
  have f1 := j1.frozen
  have Hk := Lib.hid hk
  clear hb hk
  go_wp2
  have j2 := ((((j1.set 0 (.int .i64 n) (by simp)).set 1 (.int .i64 k) (by simp)).set 2 (.int .i64 u.x) (by simp)).set 3 (.int .i64 u.y) (by simp)).set 4 (.int .i64 u.z) (by simp)
  have c2 := j2.cell
  exact bodyPost_ret (v := .tuple #[.agg #[.int .i64 n, .int .i64 k, .int .i64 u.x, .int .i64 u.y, .int .i64 u.z], .bool d]) (by simp [results, Try.results44, go_sem, c2]) rfl ⟨⟨k, by rw [hd], Hk.out⟩, by go_grown⟩
end Go.Proofs.Ytaimeemdmklmbaa
