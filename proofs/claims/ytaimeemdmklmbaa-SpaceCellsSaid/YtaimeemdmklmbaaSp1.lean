/- Directions and their axes: package space and the reference of layer 4. -/
import Derived.Test.YtaimeemdmklmbaaKit
import Derived.Test.YtaimeemdmklmbaaRec
set_option linter.all false
namespace Go.Proofs.Ytaimeemdmklmbaa
open Go.RowKit Go.Shelf

/-- A number is 1 or -1. -/
def oneB (x : Int) : Bool := x == 1 || x == -1
/-- The axis of a direction for n dimensions; -1: it is none. -/
def axisOf (n : Int) (u : P3) : Int :=
  if (1 ≤ n ∧ n ≤ 3) ∧ flatB u.x u.y u.z n 3 = true then (if oneB u.x then 0 else if 2 ≤ n ∧ oneB u.y = true then 1 else if 3 ≤ n ∧ oneB u.z = true then 2 else -1) else -1
theorem axisOf_n {n : Int} {u : P3} (h : ¬ (1 ≤ n ∧ n ≤ 3)) : axisOf n u = -1 := if_neg fun h' => h h'.1
theorem axisOf_flat {n : Int} {u : P3} (h : flatB u.x u.y u.z n 3 = false) : axisOf n u = -1 := if_neg fun h' => by rw [h] at h'; cases h'.2
/-- What there is of an axis. -/
theorem axisOf_pos {n : Int} {u : P3} (h : 0 ≤ axisOf n u) : (1 ≤ n ∧ n ≤ 3) ∧ flatB u.x u.y u.z n 3 = true ∧ axisOf n u < n := by
  by_cases hc : (1 ≤ n ∧ n ≤ 3) ∧ flatB u.x u.y u.z n 3 = true
  · refine ⟨hc.1, hc.2, ?_⟩
    unfold axisOf
    rw [if_pos hc]
    repeat' split
    all_goals omega
  · unfold axisOf at h
    rw [if_neg hc] at h
    omega
theorem axis_first1 {u : P3} (h : flatB u.x u.y u.z 1 3 = true) : firstAt oneB [u.x] 0 = axisOf 1 u := by
  unfold axisOf
  rw [if_pos ⟨by omega, h⟩]
  simp [firstAt]
theorem axis_first2 {u : P3} (h : flatB u.x u.y u.z 2 3 = true) : firstAt oneB [u.x, u.y] 0 = axisOf 2 u := by
  unfold axisOf
  rw [if_pos ⟨by omega, h⟩]
  simp [firstAt]
theorem axis_first3 {u : P3} (h : flatB u.x u.y u.z 3 3 = true) : firstAt oneB [u.x, u.y, u.z] 0 = axisOf 3 u := by
  unfold axisOf
  rw [if_pos ⟨by omega, h⟩]
  simp [firstAt]

set_option maxHeartbeats 400000 in
theorem axis1_space (x : Int) (w : World) : Calls Try.prog 90 #[.int .i64 x] w fun e w' => e = .returned (.bool (oneB x)) ∧ Below w.heap.size w w' := by
  have h : oneB x = (x == 1 || x == -1) := rfl
  have H := Lib.hid h
  clear h
  by_cases h1 : x = 1
  · subst h1
    go_enter Try.func90, Try.ntmps90
    go_wp2
    all_goals (go_ret; exact ⟨ret_bool (by rw [H.out]; simp), Below.refl _ _⟩)
  · have e1 : (x == 1) = false := by rw [beq_eq_false_iff_ne]; exact h1
    go_enter Try.func90, Try.ntmps90
    go_wp2
    all_goals (go_ret; exact ⟨ret_bool (by rw [H.out, e1]; simp), Below.refl _ _⟩)

/-- An axis, or none. -/
def AxisIs (n : Int) (u : P3) (w : World) (e : Ending) (w' : World) : Prop := (∃ k : Int, e = .returned (.tuple #[.int .i64 k, .bool (decide (0 ≤ axisOf n u))]) ∧ (0 ≤ axisOf n u → k = axisOf n u)) ∧ Below w.heap.size w w'

set_option maxHeartbeats 4000000 in
theorem axis_space (n : Int) (u : P3) (w : World) : Calls Try.prog 64 #[.int .i64 n, .agg #[.int .i64 u.x, .int .i64 u.y, .int .i64 u.z]] w (AxisIs n u w) := by
  by_cases hn : 1 ≤ n ∧ n ≤ 3
  · obtain ⟨W0, hW0⟩ : ∃ W0, W0 = w.alloc (.cells #[.int .i64 u.x, .int .i64 u.y, .int .i64 u.z] 29) := ⟨_, rfl⟩
    have hb0 : Below w.heap.size w W0 := by rw [hW0]; go_grown
    have k0 : Block W0 w.heap.size 29 #[.int .i64 u.x, .int .i64 u.y, .int .i64 u.z] := by rw [hW0]; exact Block.new _ _ _
    have hcall : ∀ (c : Nat) (xs : List Int), xs.length ≤ 3 → (∀ i, i < xs.length → W0.cell? ⟨w.heap.size, i, none⟩ = some (.int .i64 xs[i]!)) → Calls Try.prog 89 #[.slice (some ⟨w.heap.size, 0, none⟩) xs.length c, .func (.func 90) #[] #[]] W0 fun e w' => e = .returned (.int .i64 (firstAt oneB xs 0)) ∧ Below W0.heap.size W0 w' := fun c xs h3 hr =>
      idx_int0 (enters_of Try.func90 (by kernel_rfl) rfl) _ c xs W0 _ (by omega) (row_of_cells k0.lt (fun i hi => by simpa using hr i hi)) (fun W x _ _ => axis1_space x W)
    have c0 := k0.at 0 rfl
    have c1 := k0.at 1 rfl
    have c2 := k0.at 2 rfl
    have i0 : ∀ w, (Instr.index 29 (.agg #[.int .i64 u.x, .int .i64 u.y, .int .i64 u.z]) (.int .i64 0)).run Try.prog w = .ok (.int .i64 u.x) w := fun _ => by kernel_rfl
    have i1 : ∀ w, (Instr.index 29 (.agg #[.int .i64 u.x, .int .i64 u.y, .int .i64 u.z]) (.int .i64 1)).run Try.prog w = .ok (.int .i64 u.y) w := fun _ => by kernel_rfl
    have i2 : ∀ w, (Instr.index 29 (.agg #[.int .i64 u.x, .int .i64 u.y, .int .i64 u.z]) (.int .i64 2)).run Try.prog w = .ok (.int .i64 u.z) w := fun _ => by kernel_rfl
    have h3 : n = 1 ∨ n = 2 ∨ n = 3 := by omega
    clear hn
    have hgood : ∀ (m k : Int) (e : Ending) (w1 : World), k = axisOf m u → Below w.heap.size w w1 → e = .returned (.tuple #[.int .i64 k, .bool (decide (0 ≤ k))]) → AxisIs m u w e w1 := fun m k e w1 hk hb he => ⟨⟨k, by rw [he, hk], fun _ => hk⟩, hb⟩
    have hbad : ∀ (m : Int) (w1 : World), flatB u.x u.y u.z m 3 = false → Below w.heap.size w w1 → AxisIs m u w (.returned (.tuple #[.int .i64 0, .bool false])) w1 := fun m w1 hf hb => ⟨⟨0, by rw [axisOf_flat hf]; rfl, fun h => by rw [axisOf_flat hf] at h; omega⟩, hb⟩
    have Hgood := Lib.hid hgood
    have Hbad := Lib.hid hbad
    clear hgood hbad
    rcases h3 with rfl | rfl | rfl
    · have h := hcall 3 [u.x] (by simp) (fun i hi => by
        match i, hi with
        | 0, _ => exact c0
        | i + 1, hi => simp at hi)
      rw [hW0] at h
      have H := Lib.hid h
      clear h hcall c0 c1 c2 k0
      cases hf : flatB u.x u.y u.z 1 3
      · have Hf := Lib.hid hf
        rw [← Bool.not_eq_true, flatB_iff] at hf
        go_enter Try.func64, Try.ntmps64
        go_wp2_with (go_at_call 45; refine (between_space _ _ _ _).mono ?_; rintro e w' ⟨rfl, rfl⟩)
        refine wp_loop_rounds 4 ?_
        repeat any_goals (rw [rounds_succ]; go_wp2_with (go_at_call 45; refine (between_space _ _ _ _).mono ?_; rintro e w' ⟨rfl, rfl⟩))
        all_goals first
          | (go_ret2; exact Hbad.out 1 _ Hf.out (by go_grown))
          | (exfalso; simp_all; omega)
      · have hk := axis_first1 hf
        obtain ⟨k, hk'⟩ : ∃ k, k = firstAt oneB [u.x] 0 := ⟨_, rfl⟩
        rw [← hk'] at H hk
        have Hk := Lib.hid hk
        rw [flatB_iff] at hf
        clear hk hk'
        go_enter Try.func64, Try.ntmps64
        go_wp2_with (go_at_call 45; refine (between_space _ _ _ _).mono ?_; rintro e w' ⟨rfl, rfl⟩)
        refine wp_loop_rounds 4 ?_
        repeat any_goals (rw [rounds_succ]; go_wp2_with (go_at_call 45; refine (between_space _ _ _ _).mono ?_; rintro e w' ⟨rfl, rfl⟩))
        all_goals
          refine (H.out).mono ?_
          rintro e w1 ⟨rfl, hb⟩
          rw [← hW0] at hb
          have hb1 := via hb0 hb
          clear hb
          go_wp2
          go_ret2
          exact Hgood.out 1 k _ _ Hk.out hb1 rfl
    · have h := hcall 3 [u.x, u.y] (by simp) (fun i hi => by
        match i, hi with
        | 0, _ => exact c0
        | 1, _ => exact c1
        | i + 2, hi => simp at hi; omega)
      rw [hW0] at h
      have H := Lib.hid h
      clear h hcall c0 c1 c2 k0
      cases hf : flatB u.x u.y u.z 2 3
      · have Hf := Lib.hid hf
        rw [← Bool.not_eq_true, flatB_iff] at hf
        go_enter Try.func64, Try.ntmps64
        go_wp2_with (go_at_call 45; refine (between_space _ _ _ _).mono ?_; rintro e w' ⟨rfl, rfl⟩)
        refine wp_loop_rounds 4 ?_
        repeat any_goals (rw [rounds_succ]; go_wp2_with (go_at_call 45; refine (between_space _ _ _ _).mono ?_; rintro e w' ⟨rfl, rfl⟩))
        all_goals first
          | (go_ret2; exact Hbad.out 2 _ Hf.out (by go_grown))
          | (exfalso; simp_all; omega)
      · have hk := axis_first2 hf
        obtain ⟨k, hk'⟩ : ∃ k, k = firstAt oneB [u.x, u.y] 0 := ⟨_, rfl⟩
        rw [← hk'] at H hk
        have Hk := Lib.hid hk
        rw [flatB_iff] at hf
        clear hk hk'
        go_enter Try.func64, Try.ntmps64
        go_wp2_with (go_at_call 45; refine (between_space _ _ _ _).mono ?_; rintro e w' ⟨rfl, rfl⟩)
        refine wp_loop_rounds 4 ?_
        repeat any_goals (rw [rounds_succ]; go_wp2_with (go_at_call 45; refine (between_space _ _ _ _).mono ?_; rintro e w' ⟨rfl, rfl⟩))
        all_goals
          refine (H.out).mono ?_
          rintro e w1 ⟨rfl, hb⟩
          rw [← hW0] at hb
          have hb1 := via hb0 hb
          clear hb
          go_wp2
          go_ret2
          exact Hgood.out 2 k _ _ Hk.out hb1 rfl
    · have h := hcall 3 [u.x, u.y, u.z] (by simp) (fun i hi => by
        match i, hi with
        | 0, _ => exact c0
        | 1, _ => exact c1
        | 2, _ => exact c2
        | i + 3, hi => simp at hi; omega)
      rw [hW0] at h
      have H := Lib.hid h
      clear h hcall c0 c1 c2 k0
      cases hf : flatB u.x u.y u.z 3 3
      · have Hf := Lib.hid hf
        rw [← Bool.not_eq_true, flatB_iff] at hf
        go_enter Try.func64, Try.ntmps64
        go_wp2_with (go_at_call 45; refine (between_space _ _ _ _).mono ?_; rintro e w' ⟨rfl, rfl⟩)
        refine wp_loop_rounds 4 ?_
        repeat any_goals (rw [rounds_succ]; go_wp2_with (go_at_call 45; refine (between_space _ _ _ _).mono ?_; rintro e w' ⟨rfl, rfl⟩))
        all_goals first
          | (go_ret2; exact Hbad.out 3 _ Hf.out (by go_grown))
          | (exfalso; simp_all; omega)
      · have hk := axis_first3 hf
        obtain ⟨k, hk'⟩ : ∃ k, k = firstAt oneB [u.x, u.y, u.z] 0 := ⟨_, rfl⟩
        rw [← hk'] at H hk
        have Hk := Lib.hid hk
        rw [flatB_iff] at hf
        clear hk hk'
        go_enter Try.func64, Try.ntmps64
        go_wp2_with (go_at_call 45; refine (between_space _ _ _ _).mono ?_; rintro e w' ⟨rfl, rfl⟩)
        refine wp_loop_rounds 4 ?_
        repeat any_goals (rw [rounds_succ]; go_wp2_with (go_at_call 45; refine (between_space _ _ _ _).mono ?_; rintro e w' ⟨rfl, rfl⟩))
        all_goals
          refine (H.out).mono ?_
          rintro e w1 ⟨rfl, hb⟩
          rw [← hW0] at hb
          have hb1 := via hb0 hb
          clear hb
          go_wp2
          go_ret2
          exact Hgood.out 3 k _ _ Hk.out hb1 rfl
  · have hbad : AxisIs n u w (.returned (.tuple #[.int .i64 0, .bool false])) (w.alloc (.cells #[.int .i64 u.x, .int .i64 u.y, .int .i64 u.z] 29)) := ⟨⟨0, by rw [axisOf_n hn]; rfl, fun h => by rw [axisOf_n hn] at h; omega⟩, by go_grown⟩
    have Hbad := Lib.hid hbad
    have hd : decide ((1 : Int) ≤ n ∧ n ≤ 3) = false := decide_eq_false hn
    have Hd := Lib.hid hd
    clear hbad hd hn
    go_enter Try.func64, Try.ntmps64
    go_wp2_with (go_at_call 45; refine (between_space _ _ _ _).mono ?_; rintro e w' ⟨rfl, rfl⟩; rw [Hd.out])
    go_ret2
    exact Hbad.out
end Go.Proofs.Ytaimeemdmklmbaa
