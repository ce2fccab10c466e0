/- The law ForgeNils: whatever the input, true. -/
import Derived.Test.YtkaeodmjcejphaaGreatDoorNilb
set_option linter.all false
namespace Go.Proofs.YtkaeodmjcejphaaGreatDoor
open Go.RowKit

theorem Same_domain0 (w : World) : Calls Tryz.prog 40 #[.agg #[.int .i64 0, .slice none 0 0], .agg #[.int .i64 0, .slice none 0 0]] w fun e w' => e = .returned (.bool true) ∧ Below w.heap.size w w' := by
  go_enter Tryz.func40, Tryz.ntmps40
  go_wp2
  refine wp_loop_rounds 1 ?_
  rw [rounds_succ]
  go_wp2
  go_ret
  exact ⟨rfl, by go_grown⟩
theorem Same_rec0 (w : World) : Calls Tryz.prog 19 #[.agg #[.int .i64 0, .slice none 0 0, .slice none 0 0], .agg #[.int .i64 0, .slice none 0 0, .slice none 0 0]] w fun e w' => e = .returned (.bool true) ∧ Below w.heap.size w w' := by
  go_enter Tryz.func19, Tryz.ntmps19
  go_wp2_with (go_at_call 40; refine (Same_domain0 _).mono ?_; rintro e w1 ⟨rfl, hb⟩; have hcc := (bcell hb).1; have hb' : Below w.heap.size w w1 := via (by go_grown) hb; have hsz : w.heap.size + 2 ≤ w1.heap.size := (by have := hb.size; simp at this; omega))
  refine wp_loop_rounds 1 ?_
  rw [rounds_succ]
  go_wp2
  go_ret
  exact ⟨rfl, by go_grown⟩

theorem drew_below {B : Nat} {a w : World} (h : Below B a w) (n : Nat) : Below B a (w.drewN n) := h.trans ⟨rfl, rfl, rfl, Nat.le_refl _, fun _ _ => rfl⟩
set_option maxHeartbeats 4000000 in
set_option maxRecDepth 100000 in
theorem ForgeNils_true (s t : ByteArray) (d n : Int) (w : World) : Calls Tryz.prog 3 #[.string s, .string t, .agg #[.int .i64 d, .int .i64 n]] w fun e w' => e = .returned (.bool true) ∧ Below w.heap.size w w' := by
  go_enter Tryz.func3, Tryz.ntmps3
  go_wp2_with fail
  go_quiet (fail)
  by_cases hbig : (1000 : Int) < s.size ∨ (100 : Int) < t.size
  · go_wp2_with (go_at_call 4; refine (Sane_law _).mono ?_; rintro e w1 ⟨rfl, hb⟩)
    all_goals (go_ret; exact ⟨rfl, Below.trans (drew_below ((Below.refl _ _).alloc (Nat.le_refl _) _) nq) (hb.mono (by show w.heap.size ≤ (w.alloc _).heap.size; simp))⟩)
  · go_wp2
    obtain ⟨W0, hW0⟩ : ∃ W0, W0 = ((((w.alloc (Obj.cells #[Value.int IntKind.i64 d, Value.int IntKind.i64 n] 22)).drewN nq).alloc (Obj.cells #[Value.pointer none, Value.int IntKind.i64 0, Value.bool false, Value.int IntKind.i64 0] 27)).alloc (Obj.cells #[Value.pointer none, Value.pointer (some { block := w.heap.size + 1, off := 0 })] 24)) := ⟨_, rfl⟩
    rw [← hW0]
    have hs0 : W0.heap.size = w.heap.size + 3 := by rw [hW0]; simp
    have hB0 : Below w.heap.size w W0 := by rw [hW0]; exact (Below.alloc (Below.alloc (drew_below ((Below.refl _ _).alloc (Nat.le_refl _) _) nq) (by simp) _) (by simp; omega) _)
    have hZ0 : Zero W0 (.pointer (some ⟨w.heap.size + 1, 0, none⟩)) := .inr ⟨_, rfl, by omega, by rw [hW0]; simp [go_sem]⟩
    have hZ : ∀ W, Below W0.heap.size W0 W → Zero W (.pointer (some ⟨w.heap.size + 1, 0, none⟩)) := fun W hb => hZ0.below hb
    have r0 : W0.cell? ⟨w.heap.size + 1 + 1, 0, none⟩ = some (.pointer none) := by rw [hW0]; simp [go_sem]
    have r1 : W0.cell? ⟨w.heap.size + 1 + 1, 1, none⟩ = some (.pointer (some ⟨w.heap.size + 1, 0, none⟩)) := by rw [hW0]; simp [go_sem]
    have hb' : Below W0.heap.size W0 W0 := Below.refl _ _
    clear hW0 hZ0
    refine wp_loop_rounds 3 ?_
    rw [rounds_succ]
    go_wp2_with (first | (go_at_call 5; refine (Arm_rack _ (by first | exact .inl rfl | exact hZ _ (by go_grown))).mono ?_; rintro e w1 ⟨⟨u, rfl⟩, rfl⟩) | (go_at_call 6; refine (Crash_rack _ (by first | exact .inl rfl | exact hZ _ (by go_grown))).mono ?_; rintro e w1 ⟨⟨u, rfl⟩, hb⟩; have hb' : Below W0.heap.size W0 w1 := via (by go_grown) hb; have hsz' := hb'.size; have hcc := (bcell hb).1; clear hb) | (go_at_call 7; refine (Lose_rack _ (by first | exact .inl rfl | exact hZ _ (by go_grown))).mono ?_; rintro e w1 ⟨⟨u, rfl⟩, rfl⟩) | (go_at_call 8; refine (Read_rack _ (by first | exact .inl rfl | exact hZ _ (by go_grown))).mono ?_; rintro e w1 ⟨rfl, rfl⟩) | (go_at_call 9; refine (Open_forge (by first | exact .inl rfl | exact hZ _ (by go_grown))).mono ?_; rintro e w1 ⟨rfl, hb⟩; have hb' : Below W0.heap.size W0 w1 := via (by go_grown) hb; have hsz' := hb'.size; have hcc := (bcell hb).1; clear hb) | (go_at_call 10; refine (Down_rack (by first | exact .inl rfl | exact hZ _ (by go_grown))).mono ?_; rintro e w1 ⟨rfl, rfl⟩) | (go_at_call 11; refine (Copy_rack (by first | exact .inl rfl | exact hZ _ (by go_grown))).mono ?_; rintro e w1 ⟨rfl, rfl⟩) | (go_at_call 12; refine (Append_rack _ (by first | exact .inl rfl | exact hZ _ (by go_grown))).mono ?_; rintro e w1 ⟨rfl, hb⟩; have hb' : Below W0.heap.size W0 w1 := via (by go_grown) hb; have hsz' := hb'.size; have hcc := (bcell hb).1; clear hb) | (go_at_call 13; refine (Sync_rack _ (by first | exact .inl rfl | exact hZ _ (by go_grown))).mono ?_; rintro e w1 ⟨rfl, rfl⟩) | (go_at_call 14; refine (Trim_rack _ _ (by first | exact .inl rfl | exact hZ _ (by go_grown))).mono ?_; rintro e w1 ⟨rfl, hb⟩; have hb' : Below W0.heap.size W0 w1 := via (by go_grown) hb; have hsz' := hb'.size; have hcc := (bcell hb).1; clear hb))
    have r1' := (hb'.cell (p := ⟨w.heap.size + 1 + 1, 1, none⟩) (by rw [hs0]; exact Nat.lt_succ_self _)).trans r1
    rw [rounds_succ]
    go_wp2_with (first | (go_at_call 5; refine (Arm_rack _ (by first | exact .inl rfl | exact hZ _ (by go_grown))).mono ?_; rintro e w1 ⟨⟨u, rfl⟩, rfl⟩) | (go_at_call 6; refine (Crash_rack _ (by first | exact .inl rfl | exact hZ _ (by go_grown))).mono ?_; rintro e w1 ⟨⟨u, rfl⟩, hb⟩; have hb' : Below W0.heap.size W0 w1 := via (by go_grown) hb; have hsz' := hb'.size; have hcc := (bcell hb).1; clear hb) | (go_at_call 7; refine (Lose_rack _ (by first | exact .inl rfl | exact hZ _ (by go_grown))).mono ?_; rintro e w1 ⟨⟨u, rfl⟩, rfl⟩) | (go_at_call 8; refine (Read_rack _ (by first | exact .inl rfl | exact hZ _ (by go_grown))).mono ?_; rintro e w1 ⟨rfl, rfl⟩) | (go_at_call 9; refine (Open_forge (by first | exact .inl rfl | exact hZ _ (by go_grown))).mono ?_; rintro e w1 ⟨rfl, hb⟩; have hb' : Below W0.heap.size W0 w1 := via (by go_grown) hb; have hsz' := hb'.size; have hcc := (bcell hb).1; clear hb) | (go_at_call 10; refine (Down_rack (by first | exact .inl rfl | exact hZ _ (by go_grown))).mono ?_; rintro e w1 ⟨rfl, rfl⟩) | (go_at_call 11; refine (Copy_rack (by first | exact .inl rfl | exact hZ _ (by go_grown))).mono ?_; rintro e w1 ⟨rfl, rfl⟩) | (go_at_call 12; refine (Append_rack _ (by first | exact .inl rfl | exact hZ _ (by go_grown))).mono ?_; rintro e w1 ⟨rfl, hb⟩; have hb' : Below W0.heap.size W0 w1 := via (by go_grown) hb; have hsz' := hb'.size; have hcc := (bcell hb).1; clear hb) | (go_at_call 13; refine (Sync_rack _ (by first | exact .inl rfl | exact hZ _ (by go_grown))).mono ?_; rintro e w1 ⟨rfl, rfl⟩) | (go_at_call 14; refine (Trim_rack _ _ (by first | exact .inl rfl | exact hZ _ (by go_grown))).mono ?_; rintro e w1 ⟨rfl, hb⟩; have hb' : Below W0.heap.size W0 w1 := via (by go_grown) hb; have hsz' := hb'.size; have hcc := (bcell hb).1; clear hb))
    rw [rounds_succ]
    go_wp2
    have hs1 := hb'.size
    have hBx : Below w.heap.size w w1 := hB0.trans (hb'.mono (by omega))
    clear hb' r1' r0 r1 hZ hB0
    obtain ⟨W1, hW1⟩ : ∃ W1, W1 = (w1.alloc (Obj.cells #[Value.pointer none, Value.int IntKind.i64 0, Value.bool false, Value.slice none 0 0, Value.slice none 0 0] 47)).alloc (Obj.cells #[Value.pointer none, Value.pointer (some { block := w1.heap.size, off := 0 })] 36) := ⟨_, rfl⟩
    rw [← hW1]
    have hs2 : W1.heap.size = w1.heap.size + 2 := by rw [hW1]; simp
    have hB1 : Below w.heap.size w W1 := by rw [hW1]; exact (Below.alloc (Below.alloc hBx (by omega) _) (by simp; omega) _)
    have hZ0 : Zero W1 (.pointer (some ⟨w1.heap.size, 0, none⟩)) := .inr ⟨_, rfl, by omega, by rw [hW1]; simp [go_sem]⟩
    have hZ : ∀ W, Below W1.heap.size W1 W → Zero W (.pointer (some ⟨w1.heap.size, 0, none⟩)) := fun W hb => hZ0.below hb
    have r0 : W1.cell? ⟨w1.heap.size + 1, 0, none⟩ = some (.pointer none) := by rw [hW1]; simp [go_sem]
    have r1 : W1.cell? ⟨w1.heap.size + 1, 1, none⟩ = some (.pointer (some ⟨w1.heap.size, 0, none⟩)) := by rw [hW1]; simp [go_sem]
    have hb' : Below W1.heap.size W1 W1 := Below.refl _ _
    have hlt : w1.heap.size + 1 < W1.heap.size := by omega
    clear hW1 hZ0 hBx
    generalize w1.heap.size = k1 at *
    refine wp_loop_rounds 3 ?_
    rw [rounds_succ]
    go_wp2_with (first | (go_at_call 15; refine (Do_forge _ (by first | exact .inl rfl | exact hZ _ (by go_grown))).mono ?_; rintro e w1 ⟨rfl, rfl⟩) | (go_at_call 16; refine (Rec_forge _ (by first | exact .inl rfl | exact hZ _ (by go_grown))).mono ?_; rintro e w1 ⟨rfl, hb⟩; have hb' : Below W1.heap.size W1 w1 := via (by go_grown) hb; have hsz' := hb'.size; have hcc := (bcell hb).1; clear hb) | (go_at_call 17; refine (Lines_forge (by first | exact .inl rfl | exact hZ _ (by go_grown))).mono ?_; rintro e w1 ⟨rfl, rfl⟩) | (go_at_call 18; refine (Names_forge (by first | exact .inl rfl | exact hZ _ (by go_grown))).mono ?_; rintro e w1 ⟨rfl, rfl⟩) | (go_at_call 19; refine (Same_rec0 _).mono ?_; rintro e w1 ⟨rfl, hb⟩; have hb' : Below W1.heap.size W1 w1 := via (by go_grown) hb; have hsz' := hb'.size; have hcc := (bcell hb).1; clear hb) | (go_at_call 20; refine (Dead_forge (by first | exact .inl rfl | exact hZ _ (by go_grown))).mono ?_; rintro e w1 ⟨rfl, hb⟩; have hb' : Below W1.heap.size W1 w1 := via (by go_grown) hb; have hsz' := hb'.size; have hcc := (bcell hb).1; clear hb) | (go_at_call 4; refine (Sane_law _).mono ?_; rintro e w1 ⟨rfl, hb⟩; have hb' : Below W1.heap.size W1 w1 := via (by go_grown) hb))
    have r1' := (hb'.cell (p := ⟨k1 + 1, 1, none⟩) hlt).trans r1
    rw [rounds_succ]
    go_wp2_with (first | (go_at_call 15; refine (Do_forge _ (by first | exact .inl rfl | exact hZ _ (by go_grown))).mono ?_; rintro e w1 ⟨rfl, rfl⟩) | (go_at_call 16; refine (Rec_forge _ (by first | exact .inl rfl | exact hZ _ (by go_grown))).mono ?_; rintro e w1 ⟨rfl, hb⟩; have hb' : Below W1.heap.size W1 w1 := via (by go_grown) hb; have hsz' := hb'.size; have hcc := (bcell hb).1; clear hb) | (go_at_call 17; refine (Lines_forge (by first | exact .inl rfl | exact hZ _ (by go_grown))).mono ?_; rintro e w1 ⟨rfl, rfl⟩) | (go_at_call 18; refine (Names_forge (by first | exact .inl rfl | exact hZ _ (by go_grown))).mono ?_; rintro e w1 ⟨rfl, rfl⟩) | (go_at_call 19; refine (Same_rec0 _).mono ?_; rintro e w1 ⟨rfl, hb⟩; have hb' : Below W1.heap.size W1 w1 := via (by go_grown) hb; have hsz' := hb'.size; have hcc := (bcell hb).1; clear hb) | (go_at_call 20; refine (Dead_forge (by first | exact .inl rfl | exact hZ _ (by go_grown))).mono ?_; rintro e w1 ⟨rfl, hb⟩; have hb' : Below W1.heap.size W1 w1 := via (by go_grown) hb; have hsz' := hb'.size; have hcc := (bcell hb).1; clear hb) | (go_at_call 4; refine (Sane_law _).mono ?_; rintro e w1 ⟨rfl, hb⟩; have hb' : Below W1.heap.size W1 w1 := via (by go_grown) hb))
    rw [rounds_succ]
    go_wp2_with (first | (go_at_call 15; refine (Do_forge _ (by first | exact .inl rfl | exact hZ _ (by go_grown))).mono ?_; rintro e w1 ⟨rfl, rfl⟩) | (go_at_call 16; refine (Rec_forge _ (by first | exact .inl rfl | exact hZ _ (by go_grown))).mono ?_; rintro e w1 ⟨rfl, hb⟩; have hb' : Below W1.heap.size W1 w1 := via (by go_grown) hb; have hsz' := hb'.size; have hcc := (bcell hb).1; clear hb) | (go_at_call 17; refine (Lines_forge (by first | exact .inl rfl | exact hZ _ (by go_grown))).mono ?_; rintro e w1 ⟨rfl, rfl⟩) | (go_at_call 18; refine (Names_forge (by first | exact .inl rfl | exact hZ _ (by go_grown))).mono ?_; rintro e w1 ⟨rfl, rfl⟩) | (go_at_call 19; refine (Same_rec0 _).mono ?_; rintro e w1 ⟨rfl, hb⟩; have hb' : Below W1.heap.size W1 w1 := via (by go_grown) hb; have hsz' := hb'.size; have hcc := (bcell hb).1; clear hb) | (go_at_call 20; refine (Dead_forge (by first | exact .inl rfl | exact hZ _ (by go_grown))).mono ?_; rintro e w1 ⟨rfl, hb⟩; have hb' : Below W1.heap.size W1 w1 := via (by go_grown) hb; have hsz' := hb'.size; have hcc := (bcell hb).1; clear hb) | (go_at_call 4; refine (Sane_law _).mono ?_; rintro e w1 ⟨rfl, hb⟩; have hb' : Below W1.heap.size W1 w1 := via (by go_grown) hb))
    go_ret
    exact ⟨rfl, hB1.trans (hb'.mono hB1.size)⟩
end Go.Proofs.YtkaeodmjcejphaaGreatDoor
