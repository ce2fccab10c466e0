/- The cell of a point, by package space. -/
import Derived.Test.YtaimeemdmklmbaaSp1
import Derived.Deep.QuietTactic
import Derived.BigQuiet
import Derived.BigRegion
set_option linter.all false
namespace Go.Proofs.Ytaimeemdmklmbaa
open Go.RowKit Go.Shelf

/-- The cell of a point along a direction with an axis. -/
def cellOf (k : Int) (u p : P3) : P2 :=
  if k = 0 then ⟨p.y - p.x * u.x * u.y, p.z - p.x * u.x * u.z⟩ else if k = 1 then ⟨p.x - p.y * u.y * u.x, p.z - p.y * u.y * u.z⟩ else ⟨p.x - p.z * u.z * u.x, p.y - p.z * u.z * u.y⟩
theorem cellOf_0 (u p : P3) : cellOf 0 u p = ⟨p.y - p.x * u.x * u.y, p.z - p.x * u.x * u.z⟩ := rfl
theorem cellOf_1 (u p : P3) : cellOf 1 u p = ⟨p.x - p.y * u.y * u.x, p.z - p.y * u.y * u.z⟩ := rfl
theorem cellOf_2 (u p : P3) : cellOf 2 u p = ⟨p.x - p.z * u.z * u.x, p.y - p.z * u.z * u.y⟩ := rfl

set_option maxHeartbeats 1000000 in
theorem cell_10 (u p : P3) (w : World) (hu : bd3 u.x u.y u.z 3) (hp : bd3 p.x p.y p.z 1000) (huy : u.y = 0) (hpy : p.y = 0) (huz : u.z = 0) (hpz : p.z = 0) :
    Calls Try.prog 26 #[.agg #[.int .i64 1, .int .i64 0, .int .i64 u.x, .int .i64 u.y, .int .i64 u.z], .agg #[.int .i64 p.x, .int .i64 p.y, .int .i64 p.z]] w fun e w' => e = .returned (.agg #[.int .i64 (cellOf 0 u p).x, .int .i64 (cellOf 0 u p).y]) ∧ Below w.heap.size w w' := by
  obtain ⟨ux, uy, uz⟩ := u
  obtain ⟨px, py, pz⟩ := p
  obtain rfl : uy = 0 := huy
  obtain rfl : py = 0 := hpy
  obtain rfl : uz = 0 := huz
  obtain rfl : pz = 0 := hpz
  obtain ⟨h1, h2, h3⟩ := hu
  obtain ⟨h4, h5, h6⟩ := hp
  have m0 := mul_bd h4.1 h4.2 h1.1 h1.2
  rw [cellOf_0]
  dsimp only at *
  clear h1 h2 h3
  go_enter Try.func26, Try.ntmps26
  go_wp2_with fail
  go_quiet (fail)
  go_wp2_with fail
  refine wp_loop_rounds 2 ?_
  rw [rounds_succ]
  go_wp2_with fail
  rw [rounds_succ]
  go_wp2_with fail
  exact bodyPost_ret (v := .agg #[.int .i64 (0), .int .i64 (0)]) (by simp [results, Try.results26, go_sem]) rfl ⟨ret_p2 (by simp) (by simp), by go_grown; exact below_drewN (by go_grown) _⟩

set_option maxHeartbeats 1000000 in
theorem cell_20 (u p : P3) (w : World) (hu : bd3 u.x u.y u.z 3) (hp : bd3 p.x p.y p.z 1000) (huz : u.z = 0) (hpz : p.z = 0) :
    Calls Try.prog 26 #[.agg #[.int .i64 2, .int .i64 0, .int .i64 u.x, .int .i64 u.y, .int .i64 u.z], .agg #[.int .i64 p.x, .int .i64 p.y, .int .i64 p.z]] w fun e w' => e = .returned (.agg #[.int .i64 (cellOf 0 u p).x, .int .i64 (cellOf 0 u p).y]) ∧ Below w.heap.size w w' := by
  obtain ⟨ux, uy, uz⟩ := u
  obtain ⟨px, py, pz⟩ := p
  obtain rfl : uz = 0 := huz
  obtain rfl : pz = 0 := hpz
  obtain ⟨h1, h2, h3⟩ := hu
  obtain ⟨h4, h5, h6⟩ := hp
  have m0 := mul_bd h4.1 h4.2 h1.1 h1.2
  rw [cellOf_0]
  dsimp only at *
  have m1 := mul_bd m0.1 m0.2 h2.1 h2.2
  clear h1 h2 h3
  go_enter Try.func26, Try.ntmps26
  go_wp2_with fail
  go_quiet (fail)
  go_wp2_with fail
  refine wp_loop_rounds 3 ?_
  rw [rounds_succ]
  go_wp2_with fail
  rw [rounds_succ]
  go_wp2_with fail
  go_region
  go_wp2_with fail
  rw [rounds_succ]
  go_wp2_with fail
  exact bodyPost_ret (v := .agg #[.int .i64 (py - px * ux * uy), .int .i64 (0)]) (by simp [results, Try.results26, go_sem]) rfl ⟨ret_p2 (by simp) (by simp), by go_grown; exact below_drewN (by go_grown) _⟩

set_option maxHeartbeats 1000000 in
theorem cell_21 (u p : P3) (w : World) (hu : bd3 u.x u.y u.z 3) (hp : bd3 p.x p.y p.z 1000) (huz : u.z = 0) (hpz : p.z = 0) :
    Calls Try.prog 26 #[.agg #[.int .i64 2, .int .i64 1, .int .i64 u.x, .int .i64 u.y, .int .i64 u.z], .agg #[.int .i64 p.x, .int .i64 p.y, .int .i64 p.z]] w fun e w' => e = .returned (.agg #[.int .i64 (cellOf 1 u p).x, .int .i64 (cellOf 1 u p).y]) ∧ Below w.heap.size w w' := by
  obtain ⟨ux, uy, uz⟩ := u
  obtain ⟨px, py, pz⟩ := p
  obtain rfl : uz = 0 := huz
  obtain rfl : pz = 0 := hpz
  obtain ⟨h1, h2, h3⟩ := hu
  obtain ⟨h4, h5, h6⟩ := hp
  have m0 := mul_bd h5.1 h5.2 h2.1 h2.2
  rw [cellOf_1]
  dsimp only at *
  have m1 := mul_bd m0.1 m0.2 h1.1 h1.2
  clear h1 h2 h3
  go_enter Try.func26, Try.ntmps26
  go_wp2_with fail
  go_quiet (fail)
  go_wp2_with fail
  refine wp_loop_rounds 3 ?_
  rw [rounds_succ]
  go_wp2_with fail
  go_region
  go_wp2_with fail
  rw [rounds_succ]
  go_wp2_with fail
  rw [rounds_succ]
  go_wp2_with fail
  exact bodyPost_ret (v := .agg #[.int .i64 (px - py * uy * ux), .int .i64 (0)]) (by simp [results, Try.results26, go_sem]) rfl ⟨ret_p2 (by simp) (by simp), by go_grown; exact below_drewN (by go_grown) _⟩

set_option maxHeartbeats 1000000 in
theorem cell_30 (u p : P3) (w : World) (hu : bd3 u.x u.y u.z 3) (hp : bd3 p.x p.y p.z 1000) :
    Calls Try.prog 26 #[.agg #[.int .i64 3, .int .i64 0, .int .i64 u.x, .int .i64 u.y, .int .i64 u.z], .agg #[.int .i64 p.x, .int .i64 p.y, .int .i64 p.z]] w fun e w' => e = .returned (.agg #[.int .i64 (cellOf 0 u p).x, .int .i64 (cellOf 0 u p).y]) ∧ Below w.heap.size w w' := by
  obtain ⟨ux, uy, uz⟩ := u
  obtain ⟨px, py, pz⟩ := p
  obtain ⟨h1, h2, h3⟩ := hu
  obtain ⟨h4, h5, h6⟩ := hp
  have m0 := mul_bd h4.1 h4.2 h1.1 h1.2
  rw [cellOf_0]
  dsimp only at *
  have m1 := mul_bd m0.1 m0.2 h2.1 h2.2
  have m2 := mul_bd m0.1 m0.2 h3.1 h3.2
  clear h1 h2 h3
  go_enter Try.func26, Try.ntmps26
  go_wp2_with fail
  go_quiet (fail)
  go_wp2_with fail
  refine wp_loop_rounds 4 ?_
  rw [rounds_succ]
  go_wp2_with fail
  rw [rounds_succ]
  go_wp2_with fail
  go_region
  go_wp2_with fail
  rw [rounds_succ]
  go_wp2_with fail
  go_region
  go_wp2_with fail
  rw [rounds_succ]
  go_wp2_with fail
  exact bodyPost_ret (v := .agg #[.int .i64 (py - px * ux * uy), .int .i64 (pz - px * ux * uz)]) (by simp [results, Try.results26, go_sem]) rfl ⟨ret_p2 (by simp) (by simp), by go_grown; exact below_drewN (by go_grown) _⟩

set_option maxHeartbeats 1000000 in
theorem cell_31 (u p : P3) (w : World) (hu : bd3 u.x u.y u.z 3) (hp : bd3 p.x p.y p.z 1000) :
    Calls Try.prog 26 #[.agg #[.int .i64 3, .int .i64 1, .int .i64 u.x, .int .i64 u.y, .int .i64 u.z], .agg #[.int .i64 p.x, .int .i64 p.y, .int .i64 p.z]] w fun e w' => e = .returned (.agg #[.int .i64 (cellOf 1 u p).x, .int .i64 (cellOf 1 u p).y]) ∧ Below w.heap.size w w' := by
  obtain ⟨ux, uy, uz⟩ := u
  obtain ⟨px, py, pz⟩ := p
  obtain ⟨h1, h2, h3⟩ := hu
  obtain ⟨h4, h5, h6⟩ := hp
  have m0 := mul_bd h5.1 h5.2 h2.1 h2.2
  rw [cellOf_1]
  dsimp only at *
  have m1 := mul_bd m0.1 m0.2 h1.1 h1.2
  have m2 := mul_bd m0.1 m0.2 h3.1 h3.2
  clear h1 h2 h3
  go_enter Try.func26, Try.ntmps26
  go_wp2_with fail
  go_quiet (fail)
  go_wp2_with fail
  refine wp_loop_rounds 4 ?_
  rw [rounds_succ]
  go_wp2_with fail
  go_region
  go_wp2_with fail
  rw [rounds_succ]
  go_wp2_with fail
  rw [rounds_succ]
  go_wp2_with fail
  go_region
  go_wp2_with fail
  rw [rounds_succ]
  go_wp2_with fail
  exact bodyPost_ret (v := .agg #[.int .i64 (px - py * uy * ux), .int .i64 (pz - py * uy * uz)]) (by simp [results, Try.results26, go_sem]) rfl ⟨ret_p2 (by simp) (by simp), by go_grown; exact below_drewN (by go_grown) _⟩

set_option maxHeartbeats 1000000 in
theorem cell_32 (u p : P3) (w : World) (hu : bd3 u.x u.y u.z 3) (hp : bd3 p.x p.y p.z 1000) :
    Calls Try.prog 26 #[.agg #[.int .i64 3, .int .i64 2, .int .i64 u.x, .int .i64 u.y, .int .i64 u.z], .agg #[.int .i64 p.x, .int .i64 p.y, .int .i64 p.z]] w fun e w' => e = .returned (.agg #[.int .i64 (cellOf 2 u p).x, .int .i64 (cellOf 2 u p).y]) ∧ Below w.heap.size w w' := by
  obtain ⟨ux, uy, uz⟩ := u
  obtain ⟨px, py, pz⟩ := p
  obtain ⟨h1, h2, h3⟩ := hu
  obtain ⟨h4, h5, h6⟩ := hp
  have m0 := mul_bd h6.1 h6.2 h3.1 h3.2
  rw [cellOf_2]
  dsimp only at *
  have m1 := mul_bd m0.1 m0.2 h1.1 h1.2
  have m2 := mul_bd m0.1 m0.2 h2.1 h2.2
  clear h1 h2 h3
  go_enter Try.func26, Try.ntmps26
  go_wp2_with fail
  go_quiet (fail)
  go_wp2_with fail
  refine wp_loop_rounds 4 ?_
  rw [rounds_succ]
  go_wp2_with fail
  go_region
  go_wp2_with fail
  rw [rounds_succ]
  go_wp2_with fail
  go_region
  go_wp2_with fail
  rw [rounds_succ]
  go_wp2_with fail
  rw [rounds_succ]
  go_wp2_with fail
  exact bodyPost_ret (v := .agg #[.int .i64 (px - pz * uz * ux), .int .i64 (py - pz * uz * uy)]) (by simp [results, Try.results26, go_sem]) rfl ⟨ret_p2 (by simp) (by simp), by go_grown; exact below_drewN (by go_grown) _⟩

/-- What (fold).cell returns. -/
theorem cell_space (n : Int) (u p : P3) (w : World) (hn : 0 ≤ axisOf n u) (hp : flatB p.x p.y p.z n 1000 = true) :
    Calls Try.prog 26 #[.agg #[.int .i64 n, .int .i64 (axisOf n u), .int .i64 u.x, .int .i64 u.y, .int .i64 u.z], .agg #[.int .i64 p.x, .int .i64 p.y, .int .i64 p.z]] w fun e w' => e = .returned (.agg #[.int .i64 (cellOf (axisOf n u) u p).x, .int .i64 (cellOf (axisOf n u) u p).y]) ∧ Below w.heap.size w w' := by
  obtain ⟨h3, hf, hlt⟩ := axisOf_pos hn
  rw [flatB_iff] at hf hp
  have hu : bd3 u.x u.y u.z 3 := ⟨hf.1, hf.2.1, hf.2.2.1⟩
  have hb : bd3 p.x p.y p.z 1000 := ⟨hp.1, hp.2.1, hp.2.2.1⟩
  generalize axisOf n u = k at *
  have hc : (n = 1 ∧ k = 0) ∨ (n = 2 ∧ k = 0) ∨ (n = 2 ∧ k = 1) ∨ (n = 3 ∧ k = 0) ∨ (n = 3 ∧ k = 1) ∨ (n = 3 ∧ k = 2) := by omega
  rcases hc with ⟨rfl, rfl⟩ | ⟨rfl, rfl⟩ | ⟨rfl, rfl⟩ | ⟨rfl, rfl⟩ | ⟨rfl, rfl⟩ | ⟨rfl, rfl⟩
  · exact cell_10 u p w hu hb (by omega) (by omega) (by omega) (by omega)
  · exact cell_20 u p w hu hb (by omega) (by omega)
  · exact cell_21 u p w hu hb (by omega) (by omega)
  · exact cell_30 u p w hu hb
  · exact cell_31 u p w hu hb
  · exact cell_32 u p w hu hb
end Go.Proofs.Ytaimeemdmklmbaa
