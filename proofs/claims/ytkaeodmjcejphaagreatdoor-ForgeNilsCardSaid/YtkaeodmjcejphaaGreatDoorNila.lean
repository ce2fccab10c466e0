/- What a rack and a forge return that are nil or zero. -/
import Derived.Test.YtkaeodmjcejphaaGreatDoorOwn
import Derived.Deep.RegionHeld3
import Derived.Deep.QuietTactic
import Derived.BigQuiet
set_option linter.all false
namespace Go.Proofs.YtkaeodmjcejphaaGreatDoor
open Go.RowKit

/-- A pointer that is nil, or that points at a struct whose first field is nil. -/
def Zero (w : World) (v : Value) : Prop := v = .pointer none ∨ ∃ b, v = .pointer (some ⟨b, 0, none⟩) ∧ b < w.heap.size ∧ w.cell? ⟨b, 0, none⟩ = some (.pointer none)
theorem Zero.below {w w' : World} {v : Value} (h : Zero w v) (hb : Below w.heap.size w w') : Zero w' v := by
  rcases h with h | ⟨b, h1, h2, h3⟩
  · exact .inl h
  · exact .inr ⟨b, h1, Nat.lt_of_lt_of_le h2 hb.size, (hb.cell (p := ⟨b, 0, none⟩) h2).trans h3⟩

theorem none_rack {w : World} {v : Value} (h : Zero w v) : Calls Tryz.prog 22 #[v] w fun e w' => e = .returned (.bool true) ∧ w = w' := by
  rcases h with rfl | ⟨b, rfl, hb, hc⟩
  · go_enter Tryz.func22, Tryz.ntmps22
    go_wp2
    all_goals (go_ret; exact ⟨rfl, rfl⟩)
  · go_enter Tryz.func22, Tryz.ntmps22
    go_wp2
    all_goals (go_ret; exact ⟨rfl, rfl⟩)
theorem none_forge {w : World} {v : Value} (h : Zero w v) : Calls Tryz.prog 34 #[v] w fun e w' => e = .returned (.bool true) ∧ w = w' := by
  rcases h with rfl | ⟨b, rfl, hb, hc⟩
  · go_enter Tryz.func34, Tryz.ntmps34
    go_wp2
    all_goals (go_ret; exact ⟨rfl, rfl⟩)
  · go_enter Tryz.func34, Tryz.ntmps34
    go_wp2
    all_goals (go_ret; exact ⟨rfl, rfl⟩)
theorem Down_rack {w : World} {v : Value} (h : Zero w v) : Calls Tryz.prog 10 #[v] w fun e w' => e = .returned (.bool true) ∧ w = w' := by
  go_enter Tryz.func10, Tryz.ntmps10
  go_wp2_with (go_at_call 22; refine (none_rack h).mono ?_; rintro e w1 ⟨rfl, rfl⟩)
  all_goals (go_ret; exact ⟨rfl, rfl⟩)
theorem asked_rack {w : World} {v : Value} (d : Int) (h : Zero w v) : Calls Tryz.prog 24 #[v, .int .i64 d] w fun e w' => e = .returned (.int .i64 101) ∧ w = w' := by
  go_enter Tryz.func24, Tryz.ntmps24
  go_wp2_with (go_at_call 10; refine (Down_rack h).mono ?_; rintro e w1 ⟨rfl, rfl⟩)
  all_goals (go_ret; exact ⟨rfl, rfl⟩)
theorem Arm_rack {w : World} {v : Value} (n : Int) (h : Zero w v) : Calls Tryz.prog 5 #[v, .int .i64 n] w fun e w' => (∃ u, e = .returned u) ∧ w = w' := by
  go_enter Tryz.func5, Tryz.ntmps5
  go_wp2_with (go_at_call 22; refine (none_rack h).mono ?_; rintro e w1 ⟨rfl, rfl⟩)
  all_goals first | (refine bodyPost_ret (results_none rfl _ _ _) rfl ?_; exact ⟨⟨_, rfl⟩, rfl⟩) | ((try simp only [Exit.inBlock, Exit.then]); refine bodyPost_end (results_none rfl _ _ _) rfl ?_; exact ⟨⟨_, rfl⟩, rfl⟩)
theorem Crash_rack {w : World} {v : Value} (n : Int) (h : Zero w v) : Calls Tryz.prog 6 #[v, .agg #[.int .i64 n, .int .i64 n, .int .i64 n]] w fun e w' => (∃ u, e = .returned u) ∧ Below w.heap.size w w' := by
  go_enter Tryz.func6, Tryz.ntmps6
  go_wp2_with (go_at_call 22; refine (none_rack (h.below (by go_grown))).mono ?_; rintro e w1 ⟨rfl, rfl⟩)
  all_goals first | (refine bodyPost_ret (results_none rfl _ _ _) rfl ?_; exact ⟨⟨_, rfl⟩, by go_grown⟩) | ((try simp only [Exit.inBlock, Exit.then]); refine bodyPost_end (results_none rfl _ _ _) rfl ?_; exact ⟨⟨_, rfl⟩, by go_grown⟩)
theorem Lose_rack {w : World} {v : Value} (d : Int) (h : Zero w v) : Calls Tryz.prog 7 #[v, .int .i64 d] w fun e w' => (∃ u, e = .returned u) ∧ w = w' := by
  go_enter Tryz.func7, Tryz.ntmps7
  go_wp2_with (go_at_call 22; refine (none_rack h).mono ?_; rintro e w1 ⟨rfl, rfl⟩)
  all_goals first | (refine bodyPost_ret (results_none rfl _ _ _) rfl ?_; exact ⟨⟨_, rfl⟩, rfl⟩) | ((try simp only [Exit.inBlock, Exit.then]); refine bodyPost_end (results_none rfl _ _ _) rfl ?_; exact ⟨⟨_, rfl⟩, rfl⟩)
theorem Read_rack {w : World} {v : Value} (d : Int) (h : Zero w v) : Calls Tryz.prog 8 #[v, .int .i64 d] w fun e w' => e = .returned (.tuple #[.slice none 0 0, .int .i64 101]) ∧ w = w' := by
  go_enter Tryz.func8, Tryz.ntmps8
  go_wp2_with (go_at_call 24; refine (asked_rack d h).mono ?_; rintro e w1 ⟨rfl, rfl⟩)
  all_goals (go_ret2; exact ⟨rfl, rfl⟩)
theorem Append_rack {w : World} {v : Value} (d : Int) (h : Zero w v) : Calls Tryz.prog 12 #[v, .int .i64 d, .slice none 0 0] w fun e w' => e = .returned (.int .i64 101) ∧ Below w.heap.size w w' := by
  go_enter Tryz.func12, Tryz.ntmps12
  go_wp2_with (go_at_call 24; refine (asked_rack d (h.below (by go_grown))).mono ?_; rintro e w1 ⟨rfl, rfl⟩)
  all_goals (go_ret; exact ⟨rfl, by go_grown⟩)
theorem Sync_rack {w : World} {v : Value} (d : Int) (h : Zero w v) : Calls Tryz.prog 13 #[v, .int .i64 d] w fun e w' => e = .returned (.int .i64 101) ∧ w = w' := by
  go_enter Tryz.func13, Tryz.ntmps13
  go_wp2_with (go_at_call 24; refine (asked_rack d h).mono ?_; rintro e w1 ⟨rfl, rfl⟩)
  all_goals (go_ret; exact ⟨rfl, rfl⟩)
theorem Trim_rack {w : World} {v : Value} (d n : Int) (h : Zero w v) : Calls Tryz.prog 14 #[v, .int .i64 d, .int .i64 n] w fun e w' => e = .returned (.int .i64 101) ∧ Below w.heap.size w w' := by
  go_enter Tryz.func14, Tryz.ntmps14
  go_wp2_with (go_at_call 24; refine (asked_rack d (h.below (by go_grown))).mono ?_; rintro e w1 ⟨rfl, rfl⟩)
  all_goals (go_ret; exact ⟨rfl, by go_grown⟩)
theorem Copy_rack {w : World} {v : Value} (h : Zero w v) : Calls Tryz.prog 11 #[v] w fun e w' => e = .returned (.pointer none) ∧ w = w' := by
  go_enter Tryz.func11, Tryz.ntmps11
  go_wp2_with (go_at_call 22; refine (none_rack h).mono ?_; rintro e w1 ⟨rfl, rfl⟩)
  all_goals (go_ret; exact ⟨rfl, rfl⟩)
theorem catalogue_forge {w : World} {v : Value} (h : Zero w v) : Calls Tryz.prog 26 #[v] w fun e w' => e = .returned (.tuple #[.pointer none, .int .i64 101]) ∧ Below w.heap.size w w' := by
  go_enter Tryz.func26, Tryz.ntmps26
  go_wp2
  refine wp_loop_rounds 1 ?_
  rw [rounds_succ]
  go_wp2_with (go_at_call 8; refine (Read_rack 0 (h.below (by go_grown))).mono ?_; rintro e w1 ⟨rfl, rfl⟩)
  all_goals (go_ret2; exact ⟨rfl, by go_grown⟩)
theorem Open_forge {w : World} {v : Value} (h : Zero w v) : Calls Tryz.prog 9 #[v] w fun e w' => e = .returned (.tuple #[.pointer none, .int .i64 101]) ∧ Below w.heap.size w w' := by
  go_enter Tryz.func9, Tryz.ntmps9
  go_wp2_with (go_at_call 26; refine (catalogue_forge h).mono ?_; rintro e w1 ⟨rfl, hb⟩)
  all_goals (go_ret2; exact ⟨rfl, hb⟩)
theorem Dead_forge {w : World} {v : Value} (h : Zero w v) : Calls Tryz.prog 20 #[v] w fun e w' => e = .returned (.bool true) ∧ Below w.heap.size w w' := by
  go_enter Tryz.func20, Tryz.ntmps20
  go_wp2_with fail
  go_quiet ((go_at_call 34; exact Calls.quiet_of_same ((none_forge (by exact h)).mono fun _ _ x => ⟨x.1, x.2.symm⟩)))
  all_goals go_wp2
  all_goals (go_ret; exact ⟨rfl, rfl, rfl, rfl, Nat.le_refl _, fun _ _ => rfl⟩)
theorem Do_forge {w : World} {v : Value} (s : ByteArray) (h : Zero w v) : Calls Tryz.prog 15 #[v, .string s] w fun e w' => e = .returned (.tuple #[.string ⟨#[]⟩, .int .i64 101]) ∧ w = w' := by
  go_enter Tryz.func15, Tryz.ntmps15
  go_wp2_with (go_at_call 34; refine (none_forge h).mono ?_; rintro e w1 ⟨rfl, rfl⟩)
  all_goals (go_ret2; exact ⟨rfl, rfl⟩)
theorem Lines_forge {w : World} {v : Value} (h : Zero w v) : Calls Tryz.prog 17 #[v] w fun e w' => e = .returned (.slice none 0 0) ∧ w = w' := by
  go_enter Tryz.func17, Tryz.ntmps17
  go_wp2_with (go_at_call 34; refine (none_forge h).mono ?_; rintro e w1 ⟨rfl, rfl⟩)
  all_goals (go_ret; exact ⟨rfl, rfl⟩)
theorem Names_forge {w : World} {v : Value} (h : Zero w v) : Calls Tryz.prog 18 #[v] w fun e w' => e = .returned (.slice none 0 0) ∧ w = w' := by
  go_enter Tryz.func18, Tryz.ntmps18
  go_wp2_with (go_at_call 34; refine (none_forge h).mono ?_; rintro e w1 ⟨rfl, rfl⟩)
  all_goals (go_ret; exact ⟨rfl, rfl⟩)
theorem Rec_forge {w : World} {v : Value} (s : ByteArray) (h : Zero w v) : Calls Tryz.prog 16 #[v, .string s] w fun e w' => e = .returned (.tuple #[.agg #[.int .i64 0, .slice none 0 0, .slice none 0 0], .int .i64 5]) ∧ Below w.heap.size w w' := by
  go_enter Tryz.func16, Tryz.ntmps16
  go_wp2_with (go_at_call 34; refine (none_forge (h.below (by go_grown))).mono ?_; rintro e w1 ⟨rfl, rfl⟩)
  all_goals exact bodyPost_ret (v := .tuple #[.agg #[.int .i64 0, .slice none 0 0, .slice none 0 0], .int .i64 5]) (by simp [results, Tryz.results16, go_sem]) rfl ⟨rfl, by go_grown⟩
end Go.Proofs.YtkaeodmjcejphaaGreatDoor
