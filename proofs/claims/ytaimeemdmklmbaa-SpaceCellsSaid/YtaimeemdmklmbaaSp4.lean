/- A recurrence along a direction: what space.look and space.CellOf return. -/
import Derived.Test.YtaimeemdmklmbaaSp2
import Derived.Test.YtaimeemdmklmbaaSp3
set_option linter.all false
namespace Go.Proofs.Ytaimeemdmklmbaa
open Go.RowKit Go.Shelf

theorem RecOf.call {w w' : World} {p pv : Option Addr} {l : List Iq} {vs : List Vr} (h : RecOf w.heap.size w p l pv vs) (hb : Below w.heap.size w w') : RecOf w'.heap.size w' p l pv vs := (h.below hb (Nat.le_refl _)).mono hb.size
theorem recB_parts {n : Int} {l : List Iq} {vs : List Vr} (h : recB n l vs = true) : domB n l = true ∧ (ptsOf n l).length ≤ 1000 ∧ (1 ≤ vs.length ∧ vs.length ≤ 4) ∧ scanB vs.length n [] vs = true := by
  unfold recB at h
  simp only [Bool.and_eq_true, decide_eq_true_eq] at h
  exact ⟨h.1.1.1, h.1.1.2, h.1.2, h.2⟩

/-- What look returns where all is well. -/
def LookIs (n : Int) (u : P3) (p : Option Addr) (c : Nat) (l : List Iq) (pv : Option Addr) (cv : Nat) (vs : List Vr) (w : World) (e : Ending) (w' : World) : Prop :=
  ∃ B, e = .returned (.tuple #[.pointer (some ⟨B, 0, none⟩), .int .i64 0]) ∧ ViewAt w' B n u p c l pv cv vs ∧ Below w.heap.size w w'
set_option maxHeartbeats 1000000 in
theorem look_yes (n : Int) (u : P3) (p : Option Addr) (c : Nat) (l : List Iq) (pv : Option Addr) (cv : Nat) (vs : List Vr) (w : World) (hR : RecOf w.heap.size w p l pv vs) (h : recB n l vs = true) (ha : 0 ≤ axisOf n u) :
    Calls Try.prog 22 #[.agg #[.int .i64 n, .slice p l.length c, .slice pv vs.length cv], .agg #[.int .i64 u.x, .int .i64 u.y, .int .i64 u.z]] w (LookIs n u p c l pv cv vs w) := by
  obtain ⟨hd, hm, _, _⟩ := recB_parts h
  have hda : decide (0 ≤ axisOf n u) = true := decide_eq_true ha
  obtain ⟨W0, hW0⟩ : ∃ W0, W0 = (w.alloc (.cells #[.int .i64 n, .slice p l.length c, .slice pv vs.length cv] 27)).alloc (.cells #[.int .i64 u.x, .int .i64 u.y, .int .i64 u.z] 29) := ⟨_, rfl⟩
  have hb0 : Below w.heap.size w W0 := by rw [hW0]; go_grown
  have k0 : Block W0 w.heap.size 27 #[.int .i64 n, .slice p l.length c, .slice pv vs.length cv] := by rw [hW0]; exact (Block.new _ _ _).alloc _
  have k1 : Block W0 (w.heap.size + 1) 29 #[.int .i64 u.x, .int .i64 u.y, .int .i64 u.z] := by rw [hW0]; exact Block.make _ _ (by simp)
  have hv := Valid_rec n p c l pv cv vs W0 (hR.call hb0)
  rw [h] at hv
  have hr0 := hR.ineqs.call hb0
  have HW0 := Lib.hid hW0
  have Hv := Lib.hid hv
  have Hda := Lib.hid hda
  have Hd := Lib.hid hd
  clear hW0 hv hda hR h hd
  go_enter Try.func22, Try.ntmps22
  go_wp2_with fail
  rw [← HW0.out]
  refine Hv.out.mono ?_
  rintro e w1 ⟨rfl, hb⟩
  have k0 := k0.call hb
  have k1 := k1.call hb
  have hr1 := hr0.call hb
  have hb1 := via hb0 hb
  have c0 := k0.cell
  have c1 := k1.cell
  clear hb hb0 Hv hr0
  go_wp2_with fail
  refine (newFold_space n u w1).mono ?_
  rintro e w2 ⟨⟨k, rfl, hk⟩, hb⟩
  obtain rfl := hk ha
  rw [Hda.out]
  have k0 := k0.call hb
  have hr2 := hr1.call hb
  have hb2 := via hb1 hb
  have hlt := k0.lt
  clear hb hb1 c0 c1 hr1 hk
  have c0 := k0.cell
  go_wp2_with fail
  have hb3 : Below w2.heap.size w2 (w2.alloc (.cells #[.int .i64 n, .int .i64 (axisOf n u), .int .i64 u.x, .int .i64 u.y, .int .i64 u.z] 63)) := by go_grown
  refine (Points_poly n p c l _ Hd.out hm (hr2.call hb3)).mono ?_
  rintro e w4 ⟨q, cap, rfl, hrow, hb⟩
  have kf : Block w4 w2.heap.size 63 #[.int .i64 n, .int .i64 (axisOf n u), .int .i64 u.x, .int .i64 u.y, .int .i64 u.z] := (Block.new _ _ _).call hb
  have k0 := (k0.call hb3).call hb
  have hb4 := via (via hb2 hb3) hb
  clear hb hb3 c0 hr2 hb2
  have c0 := k0.cell
  have cf := kf.cell
  go_wp2
  go_ret2
  exact ⟨w4.heap.size, rfl, ⟨q, cap, Block.new _ _ _, hrow.call (by go_grown)⟩, via hb4 (by go_grown)⟩

set_option maxHeartbeats 1000000 in
theorem look_no (n : Int) (u : P3) (p : Option Addr) (c : Nat) (l : List Iq) (pv : Option Addr) (cv : Nat) (vs : List Vr) (w : World) (hR : RecOf w.heap.size w p l pv vs) (h : askE n l vs u ≠ 0) :
    Calls Try.prog 22 #[.agg #[.int .i64 n, .slice p l.length c, .slice pv vs.length cv], .agg #[.int .i64 u.x, .int .i64 u.y, .int .i64 u.z]] w fun e w' => e = .returned (.tuple #[.pointer none, .int .i64 (askE n l vs u)]) ∧ Below w.heap.size w w' := by
  obtain ⟨W0, hW0⟩ : ∃ W0, W0 = (w.alloc (.cells #[.int .i64 n, .slice p l.length c, .slice pv vs.length cv] 27)).alloc (.cells #[.int .i64 u.x, .int .i64 u.y, .int .i64 u.z] 29) := ⟨_, rfl⟩
  have hb0 : Below w.heap.size w W0 := by rw [hW0]; go_grown
  have k0 : Block W0 w.heap.size 27 #[.int .i64 n, .slice p l.length c, .slice pv vs.length cv] := by rw [hW0]; exact (Block.new _ _ _).alloc _
  have k1 : Block W0 (w.heap.size + 1) 29 #[.int .i64 u.x, .int .i64 u.y, .int .i64 u.z] := by rw [hW0]; exact Block.make _ _ (by simp)
  have hv := Valid_rec n p c l pv cv vs W0 (hR.call hb0)
  have HW0 := Lib.hid hW0
  clear hW0 hR
  cases hrec : recB n l vs
  · have he : askE n l vs u = 20 := by unfold askE; rw [hrec]; rfl
    rw [he]
    rw [hrec] at hv
    have Hv := Lib.hid hv
    clear hv he h hrec
    go_enter Try.func22, Try.ntmps22
    go_wp2_with fail
    rw [← HW0.out]
    refine Hv.out.mono ?_
    rintro e w1 ⟨rfl, hb⟩
    have hb1 := via hb0 hb
    clear hb hb0 Hv k0 k1
    go_wp2
    go_ret2
    exact ⟨rfl, hb1⟩
  · have ha : ¬ 0 ≤ axisOf n u := fun ha => h (by unfold askE; rw [hrec, if_pos rfl, if_pos ha])
    have he : askE n l vs u = 40 := by unfold askE; rw [hrec, if_pos rfl, if_neg ha]
    have hda : decide (0 ≤ axisOf n u) = false := decide_eq_false ha
    rw [he]
    rw [hrec] at hv
    have Hv := Lib.hid hv
    have Hda := Lib.hid hda
    clear hv he h hrec hda ha
    go_enter Try.func22, Try.ntmps22
    go_wp2_with fail
    rw [← HW0.out]
    refine Hv.out.mono ?_
    rintro e w1 ⟨rfl, hb⟩
    have k0 := k0.call hb
    have k1 := k1.call hb
    have hb1 := via hb0 hb
    have c0 := k0.cell
    have c1 := k1.cell
    clear hb hb0 Hv
    go_wp2_with fail
    refine (newFold_space n u w1).mono ?_
    rintro e w2 ⟨⟨k, rfl, hk⟩, hb⟩
    rw [Hda.out]
    have hb2 := via hb1 hb
    clear hb hb1 c0 c1 hk k0 k1
    go_wp2
    go_ret2
    exact ⟨rfl, via hb2 (by go_grown)⟩
end Go.Proofs.Ytaimeemdmklmbaa
