/- Directions and cells by the reference of layer 4: what Valid, Fold and Less return. -/
import Derived.Test.YtaimeemdmklmbaaRf4
set_option linter.all false
namespace Go.Proofs.Ytaimeemdmklmbaa
open Go.RowKit Go.Shelf

set_option maxHeartbeats 400000 in
theorem Valid_ref4 (n : Int) (u : P3) (w : World) : Calls Try.prog 50 #[.int .i64 n, .agg #[.int .i64 u.x, .int .i64 u.y, .int .i64 u.z]] w fun e w' => e = .returned (.bool (decide (0 ≤ axisOf n u))) ∧ Below w.heap.size w w' := by
  go_enter Try.func50, Try.ntmps50
  go_wp2_with (go_at_call 52; refine (axis_ref4 n u _).mono ?_; rintro e w1 ⟨rfl, hb⟩; have hb1 : Below w.heap.size w w1 := via (by go_grown) hb; clear hb)
  go_ret
  exact ⟨rfl, hb1⟩

set_option maxHeartbeats 400000 in
theorem Less_ref4 (a b : P2) (w : World) : Calls Try.prog 72 #[.agg #[.int .i64 a.x, .int .i64 a.y], .agg #[.int .i64 b.x, .int .i64 b.y]] w fun e w' => e = .returned (.bool (lt2 a b)) ∧ Below w.heap.size w w' := by
  by_cases h1 : a.x < b.x
  · have h : lt2 a b = true := lt2_iff.2 (.inl h1)
    have H := Lib.hid h
    clear h
    go_enter Try.func72, Try.ntmps72
    go_wp2
    go_ret
    exact ⟨ret_bool H.out.symm, by go_grown⟩
  · by_cases h2 : a.x = b.x
    · have h : lt2 a b = decide (a.y < b.y) := by unfold lt2; simp [h2]
      have H := Lib.hid h
      have e1 : decide (a.x < b.x) = false := decide_eq_false h1
      have e2 : (a.x == b.x) = true := by rw [beq_iff_eq]; exact h2
      clear h h2
      go_enter Try.func72, Try.ntmps72
      go_wp2
      go_ret
      exact ⟨ret_bool H.out.symm, by go_grown⟩
    · have h : lt2 a b = false := by unfold lt2; simp; omega
      have H := Lib.hid h
      have e1 : decide (a.x < b.x) = false := decide_eq_false h1
      have e2 : (a.x == b.x) = false := by rw [beq_eq_false_iff_ne]; exact h2
      clear h
      go_enter Try.func72, Try.ntmps72
      go_wp2
      go_ret
      exact ⟨ret_bool H.out.symm, by go_grown⟩

set_option maxHeartbeats 1000000 in
theorem Fold_0 (n : Int) (u p : P3) (w : World) (hk : axisOf n u = 0) (hu : bd3 u.x u.y u.z 3) (hp : bd3 p.x p.y p.z 1000) :
    Calls Try.prog 27 #[.int .i64 n, .agg #[.int .i64 u.x, .int .i64 u.y, .int .i64 u.z], .agg #[.int .i64 p.x, .int .i64 p.y, .int .i64 p.z]] w fun e w' => e = .returned (.agg #[.int .i64 (cellOf 0 u p).x, .int .i64 (cellOf 0 u p).y]) ∧ Below w.heap.size w w' := by
  obtain ⟨ux, uy, uz⟩ := u
  obtain ⟨px, py, pz⟩ := p
  obtain ⟨h1, h2, h3⟩ := hu
  obtain ⟨h4, h5, h6⟩ := hp
  rw [cellOf_0]
  dsimp only at *
  have m0 := mul_bd h4.1 h4.2 h1.1 h1.2
  have m1 := mul_bd m0.1 m0.2 h2.1 h2.2
  have m2 := mul_bd m0.1 m0.2 h3.1 h3.2
  clear h1 h2 h3
  obtain ⟨W0, hW0⟩ : ∃ W0, W0 = ((w.alloc (.cells #[.int .i64 ux, .int .i64 uy, .int .i64 uz] 29)).alloc (.cells #[.int .i64 px, .int .i64 py, .int .i64 pz] 29)).alloc (.cells #[.int .i64 0, .int .i64 0] 52) := ⟨_, rfl⟩
  have hb0 : Below w.heap.size w W0 := by rw [hW0]; go_grown
  have k0 : Block W0 w.heap.size 29 #[.int .i64 ux, .int .i64 uy, .int .i64 uz] := by rw [hW0]; exact ((Block.new _ _ _).alloc _).alloc _
  have k1 : Block W0 (w.heap.size + 1) 29 #[.int .i64 px, .int .i64 py, .int .i64 pz] := by rw [hW0]; exact (Block.make _ _ (by simp)).alloc _
  have k2 : Block W0 (w.heap.size + 1 + 1) 52 #[.int .i64 0, .int .i64 0] := by rw [hW0]; exact Block.make _ _ (by simp)
  have hax := axis_ref4 n ⟨ux, uy, uz⟩ W0
  rw [hk] at hax
  have HW0 := Lib.hid hW0
  have Hax := Lib.hid hax
  clear hW0 hax hk
  go_enter Try.func27, Try.ntmps27
  go_wp2_with fail
  rw [← HW0.out]
  refine Hax.out.mono ?_
  rintro e w1 ⟨rfl, hb⟩
  have k0 := k0.call hb
  have k1 := k1.call hb
  have k2 := k2.call hb
  have hb1 := via hb0 hb
  have hl0 := k0.lt
  have hl1 := k1.lt
  have hl2 := k2.lt
  clear hb hb0
  have c0 := k0.cell
  have c1 := k1.cell
  have c2 := k2.cell
  have f2 := k2.frozen
  go_wp2_with fail
  refine wp_loop_rounds 4 ?_
  rw [rounds_succ]
  go_wp2_with fail
  rw [rounds_succ]
  go_wp2_with fail
  go_region
  go_wp2_with fail
  rw [rounds_succ]
  go_wp2_with fail
  go_region
  go_wp2_with fail
  rw [rounds_succ]
  go_wp2_with fail
  have k3 := (k2.alloc (.cells #[.int .i64 (py - px * ux * uy), .int .i64 (pz - px * ux * uz)] 52))
  exact bodyPost_ret (v := .agg #[.int .i64 (py - px * ux * uy), .int .i64 (pz - px * ux * uz)]) (by simp [results, Try.results27, go_sem, c2, hl2]) rfl ⟨rfl, by go_grown⟩

set_option maxHeartbeats 1000000 in
theorem Fold_1 (n : Int) (u p : P3) (w : World) (hk : axisOf n u = 1) (hu : bd3 u.x u.y u.z 3) (hp : bd3 p.x p.y p.z 1000) :
    Calls Try.prog 27 #[.int .i64 n, .agg #[.int .i64 u.x, .int .i64 u.y, .int .i64 u.z], .agg #[.int .i64 p.x, .int .i64 p.y, .int .i64 p.z]] w fun e w' => e = .returned (.agg #[.int .i64 (cellOf 1 u p).x, .int .i64 (cellOf 1 u p).y]) ∧ Below w.heap.size w w' := by
  obtain ⟨ux, uy, uz⟩ := u
  obtain ⟨px, py, pz⟩ := p
  obtain ⟨h1, h2, h3⟩ := hu
  obtain ⟨h4, h5, h6⟩ := hp
  rw [cellOf_1]
  dsimp only at *
  have m0 := mul_bd h5.1 h5.2 h2.1 h2.2
  have m1 := mul_bd m0.1 m0.2 h1.1 h1.2
  have m2 := mul_bd m0.1 m0.2 h3.1 h3.2
  clear h1 h2 h3
  obtain ⟨W0, hW0⟩ : ∃ W0, W0 = ((w.alloc (.cells #[.int .i64 ux, .int .i64 uy, .int .i64 uz] 29)).alloc (.cells #[.int .i64 px, .int .i64 py, .int .i64 pz] 29)).alloc (.cells #[.int .i64 0, .int .i64 0] 52) := ⟨_, rfl⟩
  have hb0 : Below w.heap.size w W0 := by rw [hW0]; go_grown
  have k0 : Block W0 w.heap.size 29 #[.int .i64 ux, .int .i64 uy, .int .i64 uz] := by rw [hW0]; exact ((Block.new _ _ _).alloc _).alloc _
  have k1 : Block W0 (w.heap.size + 1) 29 #[.int .i64 px, .int .i64 py, .int .i64 pz] := by rw [hW0]; exact (Block.make _ _ (by simp)).alloc _
  have k2 : Block W0 (w.heap.size + 1 + 1) 52 #[.int .i64 0, .int .i64 0] := by rw [hW0]; exact Block.make _ _ (by simp)
  have hax := axis_ref4 n ⟨ux, uy, uz⟩ W0
  rw [hk] at hax
  have HW0 := Lib.hid hW0
  have Hax := Lib.hid hax
  clear hW0 hax hk
  go_enter Try.func27, Try.ntmps27
  go_wp2_with fail
  rw [← HW0.out]
  refine Hax.out.mono ?_
  rintro e w1 ⟨rfl, hb⟩
  have k0 := k0.call hb
  have k1 := k1.call hb
  have k2 := k2.call hb
  have hb1 := via hb0 hb
  have hl0 := k0.lt
  have hl1 := k1.lt
  have hl2 := k2.lt
  clear hb hb0
  have c0 := k0.cell
  have c1 := k1.cell
  have c2 := k2.cell
  have f2 := k2.frozen
  go_wp2_with fail
  refine wp_loop_rounds 4 ?_
  rw [rounds_succ]
  go_wp2_with fail
  go_region
  go_wp2_with fail
  rw [rounds_succ]
  go_wp2_with fail
  rw [rounds_succ]
  go_wp2_with fail
  go_region
  go_wp2_with fail
  rw [rounds_succ]
  go_wp2_with fail
  have k3 := (k2.alloc (.cells #[.int .i64 (px - py * uy * ux), .int .i64 (pz - py * uy * uz)] 52))
  exact bodyPost_ret (v := .agg #[.int .i64 (px - py * uy * ux), .int .i64 (pz - py * uy * uz)]) (by simp [results, Try.results27, go_sem, c2, hl2]) rfl ⟨rfl, by go_grown⟩

set_option maxHeartbeats 1000000 in
theorem Fold_2 (n : Int) (u p : P3) (w : World) (hk : axisOf n u = 2) (hu : bd3 u.x u.y u.z 3) (hp : bd3 p.x p.y p.z 1000) :
    Calls Try.prog 27 #[.int .i64 n, .agg #[.int .i64 u.x, .int .i64 u.y, .int .i64 u.z], .agg #[.int .i64 p.x, .int .i64 p.y, .int .i64 p.z]] w fun e w' => e = .returned (.agg #[.int .i64 (cellOf 2 u p).x, .int .i64 (cellOf 2 u p).y]) ∧ Below w.heap.size w w' := by
  obtain ⟨ux, uy, uz⟩ := u
  obtain ⟨px, py, pz⟩ := p
  obtain ⟨h1, h2, h3⟩ := hu
  obtain ⟨h4, h5, h6⟩ := hp
  rw [cellOf_2]
  dsimp only at *
  have m0 := mul_bd h6.1 h6.2 h3.1 h3.2
  have m1 := mul_bd m0.1 m0.2 h1.1 h1.2
  have m2 := mul_bd m0.1 m0.2 h2.1 h2.2
  clear h1 h2 h3
  obtain ⟨W0, hW0⟩ : ∃ W0, W0 = ((w.alloc (.cells #[.int .i64 ux, .int .i64 uy, .int .i64 uz] 29)).alloc (.cells #[.int .i64 px, .int .i64 py, .int .i64 pz] 29)).alloc (.cells #[.int .i64 0, .int .i64 0] 52) := ⟨_, rfl⟩
  have hb0 : Below w.heap.size w W0 := by rw [hW0]; go_grown
  have k0 : Block W0 w.heap.size 29 #[.int .i64 ux, .int .i64 uy, .int .i64 uz] := by rw [hW0]; exact ((Block.new _ _ _).alloc _).alloc _
  have k1 : Block W0 (w.heap.size + 1) 29 #[.int .i64 px, .int .i64 py, .int .i64 pz] := by rw [hW0]; exact (Block.make _ _ (by simp)).alloc _
  have k2 : Block W0 (w.heap.size + 1 + 1) 52 #[.int .i64 0, .int .i64 0] := by rw [hW0]; exact Block.make _ _ (by simp)
  have hax := axis_ref4 n ⟨ux, uy, uz⟩ W0
  rw [hk] at hax
  have HW0 := Lib.hid hW0
  have Hax := Lib.hid hax
  clear hW0 hax hk
  go_enter Try.func27, Try.ntmps27
  go_wp2_with fail
  rw [← HW0.out]
  refine Hax.out.mono ?_
  rintro e w1 ⟨rfl, hb⟩
  have k0 := k0.call hb
  have k1 := k1.call hb
  have k2 := k2.call hb
  have hb1 := via hb0 hb
  have hl0 := k0.lt
  have hl1 := k1.lt
  have hl2 := k2.lt
  clear hb hb0
  have c0 := k0.cell
  have c1 := k1.cell
  have c2 := k2.cell
  have f2 := k2.frozen
  go_wp2_with fail
  refine wp_loop_rounds 4 ?_
  rw [rounds_succ]
  go_wp2_with fail
  go_region
  go_wp2_with fail
  rw [rounds_succ]
  go_wp2_with fail
  go_region
  go_wp2_with fail
  rw [rounds_succ]
  go_wp2_with fail
  rw [rounds_succ]
  go_wp2_with fail
  have k3 := (k2.alloc (.cells #[.int .i64 (px - pz * uz * ux), .int .i64 (py - pz * uz * uy)] 52))
  exact bodyPost_ret (v := .agg #[.int .i64 (px - pz * uz * ux), .int .i64 (py - pz * uz * uy)]) (by simp [results, Try.results27, go_sem, c2, hl2]) rfl ⟨rfl, by go_grown⟩

/-- What Fold returns for a direction. -/
theorem Fold_ref4 (n : Int) (u p : P3) (w : World) (hn : 0 ≤ axisOf n u) (hp : bd3 p.x p.y p.z 1000) :
    Calls Try.prog 27 #[.int .i64 n, .agg #[.int .i64 u.x, .int .i64 u.y, .int .i64 u.z], .agg #[.int .i64 p.x, .int .i64 p.y, .int .i64 p.z]] w fun e w' => e = .returned (.agg #[.int .i64 (cellOf (axisOf n u) u p).x, .int .i64 (cellOf (axisOf n u) u p).y]) ∧ Below w.heap.size w w' := by
  obtain ⟨h3, hf, hlt⟩ := axisOf_pos hn
  rw [flatB_iff] at hf
  have hu : bd3 u.x u.y u.z 3 := ⟨hf.1, hf.2.1, hf.2.2.1⟩
  have hc : axisOf n u = 0 ∨ axisOf n u = 1 ∨ axisOf n u = 2 := by omega
  rcases hc with h | h | h
  · have := Fold_0 n u p w h hu hp; rw [h]; exact this
  · have := Fold_1 n u p w h hu hp; rw [h]; exact this
  · have := Fold_2 n u p w h hu hp; rw [h]; exact this
end Go.Proofs.Ytaimeemdmklmbaa
