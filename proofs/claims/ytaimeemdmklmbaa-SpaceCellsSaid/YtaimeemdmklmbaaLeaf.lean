/- What the small functions of the packages poly, rec, space, link and of the references return. -/
import Derived.Test.YtaimeemdmklmbaaBase
set_option linter.all false
namespace Go.Proofs.Ytaimeemdmklmbaa
open Go.RowKit

set_option maxHeartbeats 400000 in
theorem between_space (a b c : Int) (w : World) : Calls Try.prog 45 #[.int .i64 a, .int .i64 b, .int .i64 c] w fun e w' => e = .returned (.bool (decide (a ≤ b ∧ b ≤ c))) ∧ w = w' := by
  go_enter Try.func45, Try.ntmps45
  go_wp2
  all_goals (go_ret; exact ⟨ret_bool (by simp <;> omega), rfl⟩)
set_option maxHeartbeats 400000 in
theorem between_rec (a b c : Int) (w : World) : Calls Try.prog 66 #[.int .i64 a, .int .i64 b, .int .i64 c] w fun e w' => e = .returned (.bool (decide (a ≤ b ∧ b ≤ c))) ∧ w = w' := by
  go_enter Try.func66, Try.ntmps66
  go_wp2
  all_goals (go_ret; exact ⟨ret_bool (by simp <;> omega), rfl⟩)
set_option maxHeartbeats 400000 in
theorem between_poly (a b c : Int) (w : World) : Calls Try.prog 97 #[.int .i64 a, .int .i64 b, .int .i64 c] w fun e w' => e = .returned (.bool (decide (a ≤ b ∧ b ≤ c))) ∧ w = w' := by
  go_enter Try.func97, Try.ntmps97
  go_wp2
  all_goals (go_ret; exact ⟨ret_bool (by simp <;> omega), rfl⟩)
set_option maxHeartbeats 400000 in
theorem inRange_ref (a m : Int) (w : World) (h0 : -1000000 ≤ m) (h1 : m ≤ 1000000) : Calls Try.prog 41 #[.int .i64 a, .int .i64 m] w fun e w' => e = .returned (.bool (decide (-m ≤ a ∧ a ≤ m))) ∧ w = w' := by
  go_enter Try.func41, Try.ntmps41
  go_wp2
  all_goals (go_ret; exact ⟨ret_bool (by simp <;> omega), rfl⟩)

set_option maxHeartbeats 1000000 in
theorem ranged_poly (x y z n m : Int) (w : World) (h0 : -1000000 ≤ m) (h1 : m ≤ 1000000): Calls Try.prog 100 #[.agg #[.int .i64 x, .int .i64 y, .int .i64 z], .int .i64 n, .int .i64 m] w fun e w' => e = .returned (.bool (flatB x y z n m)) ∧ Below w.heap.size w w' := by
  have i0 : ∀ w, (Instr.index 29 (.agg #[.int .i64 x, .int .i64 y, .int .i64 z]) (.int .i64 0)).run Try.prog w = .ok (.int .i64 x) w := fun _ => by kernel_rfl
  have i1 : ∀ w, (Instr.index 29 (.agg #[.int .i64 x, .int .i64 y, .int .i64 z]) (.int .i64 1)).run Try.prog w = .ok (.int .i64 y) w := fun _ => by kernel_rfl
  have i2 : ∀ w, (Instr.index 29 (.agg #[.int .i64 x, .int .i64 y, .int .i64 z]) (.int .i64 2)).run Try.prog w = .ok (.int .i64 z) w := fun _ => by kernel_rfl
  go_enter Try.func100, Try.ntmps100
  go_wp2_with (go_at_call 97; refine (between_poly _ _ _ _).mono ?_; rintro e w' ⟨rfl, rfl⟩)
  refine wp_loop_rounds 4 ?_
  repeat any_goals (rw [rounds_succ]; go_wp2_with (go_at_call 97; refine (between_poly _ _ _ _).mono ?_; rintro e w' ⟨rfl, rfl⟩))
  all_goals (go_ret; exact ⟨ret_bool (by simp_all [flatB] <;> omega), (Below.refl _ _).alloc (Nat.le_refl _) _⟩)

set_option maxHeartbeats 2000000 in
theorem flat_ref (x y z n m : Int) (w : World) (h0 : -1000000 ≤ m) (h1 : m ≤ 1000000): Calls Try.prog 40 #[.agg #[.int .i64 x, .int .i64 y, .int .i64 z], .int .i64 n, .int .i64 m] w fun e w' => e = .returned (.bool (flatB x y z n m)) ∧ Below w.heap.size w w' := by
  go_enter Try.func40, Try.ntmps40
  go_wp2_with (go_at_call 41; refine (inRange_ref _ _ _ h0 h1).mono ?_; rintro e w' ⟨rfl, rfl⟩)
  refine wp_loop_rounds 4 ?_
  repeat any_goals (rw [rounds_succ]; go_wp2_with (go_at_call 41; refine (inRange_ref _ _ _ h0 h1).mono ?_; rintro e w' ⟨rfl, rfl⟩))
  all_goals (go_ret; exact ⟨ret_bool (by simp_all [flatB] <;> omega), (Below.refl _ _).alloc (Nat.le_refl _) _⟩)

set_option maxHeartbeats 400000 in
theorem Flat_ref (x y z n m : Int) (w : World) (h0 : -1000000 ≤ m) (h1 : m ≤ 1000000): Calls Try.prog 73 #[.agg #[.int .i64 x, .int .i64 y, .int .i64 z], .int .i64 n, .int .i64 m] w fun e w' => e = .returned (.bool (flatB x y z n m)) ∧ Below w.heap.size w w' := by
  go_enter Try.func73, Try.ntmps73
  go_wp2_with (go_at_call 40; refine (flat_ref _ _ _ _ _ _ h0 h1).mono ?_; rintro e w' ⟨rfl, hb⟩)
  go_ret
  exact ⟨rfl, via (by go_grown) hb⟩

/-- How far coordinate i goes in n dimensions. -/
def farN (n : Int) (i : Nat) : Nat := if (i : Int) < n then 20 else 0
theorem farN_le (n : Int) (i : Nat) : farN n i ≤ 20 := by unfold farN; split <;> omega
set_option maxHeartbeats 400000 in
theorem far_ref (n : Int) (i : Nat) (v : Value) (w : World) : Calls Try.prog 42 #[.agg #[.int .i64 n, v], .int .i64 i] w fun e w' => e = .returned (.int .i64 (farN n i)) ∧ Below w.heap.size w w' := by
  go_enter Try.func42, Try.ntmps42
  by_cases h : (i : Int) < n
  · have hf : farN n i = 20 := by unfold farN; rw [if_pos h]
    go_wp2
    go_ret
    exact ⟨ret_int (by simp [hf]), by go_grown⟩
  · have hf : farN n i = 0 := by unfold farN; rw [if_neg h]
    go_wp2
    go_ret
    exact ⟨ret_int (by simp [hf]), by go_grown⟩

set_option maxHeartbeats 400000 in
theorem Dot_ref (ax ay az bx b1 bz : Int) (w : World) (ha : bd3 ax ay az 100000) (hb : bd3 bx b1 bz 100000) : Calls Try.prog 63 #[.agg #[.int .i64 ax, .int .i64 ay, .int .i64 az], .agg #[.int .i64 bx, .int .i64 b1, .int .i64 bz]] w fun e w' => e = .returned (.int .i64 (ax * bx + ay * b1 + az * bz)) ∧ Below w.heap.size w w' := by
  obtain ⟨h1, h2, h3⟩ := ha
  obtain ⟨h4, h5, h6⟩ := hb
  have m1 := mul_bd h1.1 h1.2 h4.1 h4.2
  have m2 := mul_bd h2.1 h2.2 h5.1 h5.2
  have m3 := mul_bd h3.1 h3.2 h6.1 h6.2
  clear h1 h2 h3 h4 h5 h6
  go_enter Try.func63, Try.ntmps63
  go_wp2
  go_ret
  exact ⟨rfl, by go_grown⟩
set_option maxHeartbeats 400000 in
theorem times_poly (ax ay az bx b1 bz : Int) (w : World) (ha : bd3 ax ay az 100000) (hb : bd3 bx b1 bz 100000) : Calls Try.prog 125 #[.agg #[.int .i64 ax, .int .i64 ay, .int .i64 az], .agg #[.int .i64 bx, .int .i64 b1, .int .i64 bz]] w fun e w' => e = .returned (.int .i64 (ax * bx + ay * b1 + az * bz)) ∧ Below w.heap.size w w' := by
  obtain ⟨h1, h2, h3⟩ := ha
  obtain ⟨h4, h5, h6⟩ := hb
  have m1 := mul_bd h1.1 h1.2 h4.1 h4.2
  have m2 := mul_bd h2.1 h2.2 h5.1 h5.2
  have m3 := mul_bd h3.1 h3.2 h6.1 h6.2
  clear h1 h2 h3 h4 h5 h6
  go_enter Try.func125, Try.ntmps125
  go_wp2
  go_ret
  exact ⟨rfl, by go_grown⟩
end Go.Proofs.Ytaimeemdmklmbaa
