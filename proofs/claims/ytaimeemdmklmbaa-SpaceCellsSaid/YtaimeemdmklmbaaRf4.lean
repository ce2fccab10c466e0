/- Directions and cells by the reference of layer 4. -/
import Derived.Test.YtaimeemdmklmbaaSp2
import Derived.Deep.DrawnRows
import Derived.BigRegion
set_option linter.all false
namespace Go.Proofs.Ytaimeemdmklmbaa
open Go.RowKit Go.Shelf

set_option maxHeartbeats 2000000 in
theorem axis_ref4 (n : Int) (u : P3) (w : World) : Calls Try.prog 52 #[.int .i64 n, .agg #[.int .i64 u.x, .int .i64 u.y, .int .i64 u.z]] w fun e w' => e = .returned (.int .i64 (axisOf n u)) ∧ Below w.heap.size w w' := by
  by_cases hn : 1 ≤ n ∧ n ≤ 3
  · obtain ⟨W0, hW0⟩ : ∃ W0, W0 = w.alloc (.cells #[.int .i64 u.x, .int .i64 u.y, .int .i64 u.z] 29) := ⟨_, rfl⟩
    have hb0 : Below w.heap.size w W0 := by rw [hW0]; go_grown
    have k0 : Block W0 w.heap.size 29 #[.int .i64 u.x, .int .i64 u.y, .int .i64 u.z] := by rw [hW0]; exact Block.new _ _ _
    have hfl := Flat_ref u.x u.y u.z n 3 W0 (by omega) (by omega)
    have HW0 := Lib.hid hW0
    clear hW0
    cases hf : flatB u.x u.y u.z n 3
    · rw [hf] at hfl
      rw [axisOf_flat hf]
      have Hfl := Lib.hid hfl
      clear hfl hf
      have h3 : n = 1 ∨ n = 2 ∨ n = 3 := by omega
      rcases h3 with rfl | rfl | rfl
      all_goals
        go_enter Try.func52, Try.ntmps52
        go_wp2_with (go_at_call 73; rw [← HW0.out]; refine Hfl.out.mono ?_; rintro e w1 ⟨rfl, hb⟩; have hb1 := via hb0 hb; clear hb)
        go_ret
        exact ⟨rfl, hb1⟩
    · rw [hf] at hfl
      have Hfl := Lib.hid hfl
      clear hfl
      obtain ⟨ux, uy, uz⟩ := u
      dsimp only at *
      have hax : ∀ m, n = m → axisOf n ⟨ux, uy, uz⟩ = (if oneB ux then 0 else if 2 ≤ m ∧ oneB uy = true then 1 else if 3 ≤ m ∧ oneB uz = true then 2 else -1) := fun m hm => by
        subst hm; unfold axisOf; rw [if_pos ⟨hn, hf⟩]
      have Hax := Lib.hid hax
      clear hax hf
      have h3 : n = 1 ∨ n = 2 ∨ n = 3 := by omega
      rcases h3 with rfl | rfl | rfl
      all_goals
        go_enter Try.func52, Try.ntmps52
        go_wp2_with (go_at_call 73; rw [← HW0.out]; refine Hfl.out.mono ?_; rintro e w1 ⟨rfl, hb⟩; have hb1 := via hb0 hb; have c0 := (k0.call hb).cell; clear hb)
        refine wp_loop_rounds 4 ?_
        repeat any_goals (rw [rounds_succ]; go_wp2)
        all_goals (go_ret; exact ⟨ret_int (by rw [Hax.out _ rfl]; simp_all [oneB]), hb1⟩)
  · rw [axisOf_n hn]
    have hlt : n < 1 ∨ 3 < n := by omega
    clear hn
    rcases hlt with hlt | hlt
    all_goals
      go_enter Try.func52, Try.ntmps52
      go_wp2
      go_ret
      exact ⟨rfl, by go_grown⟩
end Go.Proofs.Ytaimeemdmklmbaa
