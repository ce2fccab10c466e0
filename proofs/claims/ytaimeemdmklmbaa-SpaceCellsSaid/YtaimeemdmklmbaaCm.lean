/- The comparisons of numbers and of cells. -/
import Derived.Test.YtaimeemdmklmbaaSor
import Derived.Deep.QuietTactic
import Derived.BigQuiet
set_option linter.all false
namespace Go.Proofs.Ytaimeemdmklmbaa
open Go.RowKit Go.Shelf
open Go.Sort (grow SWO)

/-- -1, 0 or 1. -/
def cmpI (a b : Int) : Int := if a < b then -1 else if b < a then 1 else 0
def cmp2 (a b : P2) : Int := if cmpI a.x b.x ≠ 0 then cmpI a.x b.x else cmpI a.y b.y
theorem cmpI_neg {a b : Int} : cmpI a b < 0 ↔ a < b := by unfold cmpI; repeat' split
                                                          all_goals omega
theorem cmpI_zero {a b : Int} : cmpI a b = 0 ↔ a = b := by unfold cmpI; repeat' split
                                                           all_goals omega
theorem ltOf_cmp2 (a b : P2) : ltOf cmp2 a b = lt2 a b := by
  unfold ltOf lt2 cmp2
  rw [decide_eq_decide]
  by_cases h : a.x = b.x
  · rw [if_neg (fun hne => hne (cmpI_zero.2 h)), cmpI_neg]; omega
  · rw [if_pos (by rw [ne_eq, cmpI_zero]; exact h), cmpI_neg]; omega
theorem swo2 : SWO (ltOf cmp2) where
  irrefl x := by rw [ltOf_cmp2]; exact lt2_irrefl x
  trans x y z h1 h2 := by rw [ltOf_cmp2] at *; exact lt2_trans h1 h2
  ntrans x y z h1 h2 := by
    rw [ltOf_cmp2] at *
    cases h : lt2 x z
    · rfl
    · exfalso
      by_cases hxy : x = y
      · subst hxy; rw [h] at h2; cases h2
      · rcases lt2_total hxy with e | e
        · rw [e] at h1; cases h1
        · rw [lt2_trans e h] at h2; cases h2

set_option maxHeartbeats 400000 in
theorem isNaN_int (a : Int) (w : World) : Calls Try.prog 87 #[.int .i64 a] w fun e w' => e = .returned (.bool false) ∧ w = w' := by
  go_enter Try.func87, Try.ntmps87
  go_wp2
  go_ret
  exact ⟨ret_bool (by simp), rfl⟩
set_option maxHeartbeats 400000 in
theorem Compare_int (a b : Int) (w : World) : Calls Try.prog 60 #[.int .i64 a, .int .i64 b] w fun e w' => e = .returned (.int .i64 (cmpI a b)) ∧ w' = w := by
  go_enter Try.func60, Try.ntmps60
  go_wp2_with (go_at_call 87; refine (isNaN_int _ _).mono ?_; rintro e w' ⟨rfl, rfl⟩)
  all_goals (go_ret; exact ⟨ret_int (by unfold cmpI; repeat' split; all_goals omega), rfl⟩)

set_option maxHeartbeats 1000000 in
theorem Compare_cells (a b : P2) (A B : Nat) (w : World) (a0 : w.cell? ⟨A, 0, none⟩ = some (.int .i64 a.x)) (a1 : w.cell? ⟨A, 1, none⟩ = some (.int .i64 a.y)) (b0 : w.cell? ⟨B, 0, none⟩ = some (.int .i64 b.x)) (b1 : w.cell? ⟨B, 1, none⟩ = some (.int .i64 b.y)) :
    Calls Try.prog 70 #[.slice (some ⟨A, 0, none⟩) 2 2, .slice (some ⟨B, 0, none⟩) 2 2] w fun e w' => e = .returned (.int .i64 (cmp2 a b)) ∧ w' = w := by
  go_enter Try.func70, Try.ntmps70
  go_wp2
  refine wp_loop_rounds 3 ?_
  repeat any_goals (rw [rounds_succ]; go_wp2_with (go_at_call 60; refine (Compare_int _ _ _).mono ?_; rintro e w' ⟨rfl, rfl⟩))
  all_goals (go_ret; exact ⟨ret_int (by unfold cmp2; simp_all), rfl⟩)

set_option maxHeartbeats 1000000 in
theorem compare_space' (a b : P2) (w : World) : Calls Try.prog 48 #[.agg #[.int .i64 a.x, .int .i64 a.y], .agg #[.int .i64 b.x, .int .i64 b.y]] w fun e w' => e = .returned (.int .i64 (cmp2 a b)) ∧ ∃ q os', w' = grow (w.drewN q) os' := by
  go_enter Try.func48, Try.ntmps48
  go_wp2_with fail
  go_quiet ((go_at_call 70; exact Calls.quiet_of_same (Compare_cells a b _ _ _ (by simp [go_sem]) (by simp [go_sem]) (by simp [go_sem]) (by simp [go_sem]))))
  go_wp2
  go_ret
  exact ⟨rfl, _, _, grow_alloc2 _ _ _ _⟩
theorem compare_space : CmpIs Try.prog 48 P2.enc cmp2 := fun a b w => compare_space' a b w
end Go.Proofs.Ytaimeemdmklmbaa
