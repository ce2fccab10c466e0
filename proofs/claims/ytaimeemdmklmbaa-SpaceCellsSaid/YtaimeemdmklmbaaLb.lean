/- What is sane in the law of layer 4: one cell of one point. -/
import Derived.Test.YtaimeemdmklmbaaLa
set_option linter.all false
namespace Go.Proofs.Ytaimeemdmklmbaa
open Go.RowKit Go.Shelf
attribute [local go_sem ↓] Go.wp_at_zero Go.wp_at_succ
attribute [local go_sem] guardCell eqCell

set_option maxRecDepth 100000 in
set_option maxHeartbeats 4000000 in
theorem CellOf_one (w : World) :
    Calls Try.prog 21 #[.int .i64 2, .agg #[.int .i64 1, .int .i64 1, .int .i64 0], .agg #[.int .i64 3, .int .i64 5, .int .i64 0]] w fun e w' => e = .returned (.tuple #[.agg #[.int .i64 2, .int .i64 0], .int .i64 0]) ∧ Below w.heap.size w w' := by
  have hax : axisOf 2 ⟨1, 1, 0⟩ = 0 := by decide
  have i0 : ∀ w, (Instr.index 29 (.agg #[.int .i64 3, .int .i64 5, .int .i64 0]) (.int .i64 0)).run Try.prog w = .ok (.int .i64 3) w := fun _ => by kernel_rfl
  have i1 : ∀ w, (Instr.index 29 (.agg #[.int .i64 3, .int .i64 5, .int .i64 0]) (.int .i64 1)).run Try.prog w = .ok (.int .i64 5) w := fun _ => by kernel_rfl
  have i2 : ∀ w, (Instr.index 29 (.agg #[.int .i64 3, .int .i64 5, .int .i64 0]) (.int .i64 2)).run Try.prog w = .ok (.int .i64 0) w := fun _ => by kernel_rfl
  obtain ⟨W0, hW0⟩ : ∃ W0, W0 = ((w.alloc (.cells #[.int .i64 1, .int .i64 1, .int .i64 0] 29)).alloc (.cells #[.int .i64 3, .int .i64 5, .int .i64 0] 29)).alloc (.cells #[.int .i64 0, .int .i64 0] 52) := ⟨_, rfl⟩
  have hb0 : Below w.heap.size w W0 := by rw [hW0]; go_grown
  have k1 : Block W0 (w.heap.size + 1) 29 #[.int .i64 3, .int .i64 5, .int .i64 0] := by rw [hW0]; exact (Block.make _ _ (by simp)).alloc _
  have k2 : Block W0 (w.heap.size + 1 + 1) 52 #[.int .i64 0, .int .i64 0] := by rw [hW0]; exact Block.make _ _ (by simp)
  have HW0 := Lib.hid hW0
  clear hW0
  go_enter Try.func21, Try.ntmps21
  go_wp2_with fail
  rw [← HW0.out]
  refine (newFold_space 2 ⟨1, 1, 0⟩ W0).mono ?_
  rintro e w1 ⟨⟨k, rfl, hk⟩, hb⟩
  obtain rfl := hk (by rw [hax]; decide)
  have hd : decide (0 ≤ axisOf 2 ⟨1, 1, 0⟩) = true := by rw [hax]; decide
  rw [hd, hax]
  have k1 := k1.call hb
  have k2 := k2.call hb
  have hb1 := via hb0 hb
  have c1 := k1.cell
  have c2 := k2.cell
  have f2 := k2.frozen
  have hl1 := k1.lt
  have hl2 := k2.lt
  clear hb hd hk
  go_wp2_with fail
  refine wp_loop_rounds 4 ?_
  repeat any_goals (rw [rounds_succ]; go_wp2_with (go_at_call 45; refine (between_space _ _ _ _).mono ?_; rintro e w' ⟨rfl, rfl⟩))
  have hc := fun W => cell_space 2 ⟨1, 1, 0⟩ ⟨3, 5, 0⟩ W (by rw [hax]; decide) (by decide)
  have h20 : cellOf (axisOf 2 ⟨1, 1, 0⟩) ⟨1, 1, 0⟩ ⟨3, 5, 0⟩ = ⟨2, 0⟩ := by rw [hax]; rfl
  rw [h20, hax] at hc
  refine (hc _).mono ?_
  rintro e w2 ⟨rfl, hb⟩
  have hb2 : Below w.heap.size w w2 := via (hb1.alloc hb1.size _) hb
  have k2 := (k2.alloc _).call hb
  have c2 := k2.cell
  have f2 := k2.frozen
  have hl2 := k2.lt
  clear hb c1 hc h20
  go_wp2
  have k3 := (k2.set 0 (.int .i64 2) (by simp)).set 1 (.int .i64 0) (by simp)
  have c3 := k3.cell
  exact bodyPost_ret (v := .tuple #[.agg #[.int .i64 2, .int .i64 0], .int .i64 0]) (by simp [results, Try.results21, go_sem, c3]) rfl ⟨rfl, by go_grown⟩

set_option maxHeartbeats 1000000 in
theorem Sane_law4 (w : World) : Calls Try.prog 6 #[] w fun e w' => e = .returned (.bool true) ∧ Below w.heap.size w w' := by
  go_enter Try.func6, Try.ntmps6
  go_wp2_with fail
  refine (CellOf_one w).mono ?_
  rintro e w1 ⟨rfl, hb⟩
  go_wp2_with fail
  go_ret
  exact ⟨rfl, hb.alloc hb.size _⟩
end Go.Proofs.Ytaimeemdmklmbaa
