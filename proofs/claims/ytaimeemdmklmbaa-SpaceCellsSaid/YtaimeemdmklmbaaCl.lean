/- The cells of all points by package space. -/
import Derived.Test.YtaimeemdmklmbaaCp
import Derived.Test.YtaimeemdmklmbaaMv2
set_option linter.all false
namespace Go.Proofs.Ytaimeemdmklmbaa
open Go.RowKit Go.Shelf
attribute [local go_sem ↓] Go.wp_at_zero Go.wp_at_succ

theorem span_mem {f : Nat} {z : Int} (h : z ∈ span f) : -(f : Int) ≤ z ∧ z ≤ f := by
  unfold span at h
  rw [List.mem_map] at h
  obtain ⟨i, hi, rfl⟩ := h
  rw [List.mem_range] at hi
  omega
theorem pts_mem {n : Int} {l : List Iq} {p : P3} (h : p ∈ ptsOf n l) : flatB p.x p.y p.z n 20 = true ∧ l.all (satB p) = true := by
  unfold ptsOf boxOf planeOf lineOf at h
  simp only [List.mem_flatMap, List.mem_filter, List.mem_map] at h
  obtain ⟨x, hx, y, hy, ⟨z, hz, rfl⟩, hs⟩ := h
  exact ⟨flatB_in (span_mem hx) (span_mem hy) (span_mem hz), hs⟩
/-- The cells of all points, in the points' order. -/
def cellsL (n : Int) (l : List Iq) (u : P3) : List P2 := (ptsOf n l).map (cellOf (axisOf n u) u)
theorem cellsL_len (n : Int) (l : List Iq) (u : P3) : (cellsL n l u).length = (ptsOf n l).length := by simp [cellsL]

/-- What Cells returns. -/
def CellsIs (n : Int) (u : P3) (l : List Iq) (vs : List Vr) (w : World) (e : Ending) (w' : World) : Prop :=
  ∃ v, e = .returned (.tuple #[v, .int .i64 (askE n l vs u)]) ∧ Own w.heap.size w' 52 2 P2.enc v (if askE n l vs u = 0 then sorted2 (cellsL n l u) else []) ∧ Below w.heap.size w w'
theorem cmpt_perm {ys xs : List P2} (hp : ys.Perm xs) (hs : ys.Pairwise fun x y => lt2 y x = false) : cmpt ys = sorted2 xs := by
  obtain ⟨h1, h2⟩ := cmpt_aux ys [] List.Pairwise.nil (by simp) hs
  exact up_sorted2 h1 fun x => (h2 x).trans (by simp [hp.mem_iff])

set_option maxRecDepth 100000 in
set_option maxHeartbeats 2000000 in
theorem cells_space (B : Nat) (n : Int) (u : P3) (p : Option Addr) (c : Nat) (l : List Iq) (pv : Option Addr) (cv : Nat) (vs : List Vr) (w : World) (hview : ViewAt w B n u p c l pv cv vs) (hax : 0 ≤ axisOf n u) (hm : (ptsOf n l).length ≤ 1000) :
    Calls Try.prog 23 #[.pointer (some ⟨B, 0, none⟩)] w fun e w' => ∃ v, e = .returned v ∧ Own w.heap.size w' 52 2 P2.enc v (sorted2 (cellsL n l u)) ∧ Below w.heap.size w w' := by
  obtain ⟨i1, hinf1, y10, y11, y12⟩ := info_parts infoCell
  have hv0 := hview
  obtain ⟨q, qc, vb, hrow⟩ := hview.ex
  have c8 : w.cell? ⟨B, 8, none⟩ = some (.slice q (ptsOf n l).length qc) := vb.at 8 rfl
  have hB0 := vb.lt
  have Hm := Lib.hid hm
  go_enter Try.func23, Try.ntmps23
  go_wp2_with fail
  go_loopw [3, 11] (fun v x wr => ∃ j : Nat, j ≤ (ptsOf n l).length ∧ x = .int .i64 j ∧ Own w.heap.size wr 52 2 P2.enc v (((ptsOf n l).take j).map (cellOf (axisOf n u) u)) ∧ Below w.heap.size w wr) (fun _ x _ => (ptsOf n l).length - (intOf x).toNat)
  case atStart => exact ⟨0, Nat.zero_le _, rfl, Own.nil _ _ _ _ _, Below.refl _ _⟩
  case round =>
    obtain ⟨j, hj, rfl, hin, hB⟩ := hrel
    by_cases hlt : j < (ptsOf n l).length
    · obtain ⟨b, off, rfl, hbs, e0, e1, e2⟩ := (hrow.below hB (Nat.le_refl _)).pt hlt
      obtain ⟨hd, hmem⟩ := tail_mem hlt
      have hfl := flat_mono (pts_mem hmem).1 (show (20 : Int) ≤ 1000 by omega)
      have hts : (((ptsOf n l).take (j + 1)).map (cellOf (axisOf n u) u)) = (((ptsOf n l).take j).map (cellOf (axisOf n u) u)) ++ [cellOf (axisOf n u) u (ptsOf n l)[j]!] := by rw [take_snoc hlt]; simp
      have Hts := Lib.hid hts
      have hcell := fun W => cell_space n u (ptsOf n l)[j]! W hax hfl
      have Hcell := Lib.hid hcell
      clear hd hmem hfl hts hcell
      generalize (ptsOf n l)[j]! = a at *
      obtain ⟨Wa, hWa⟩ : ∃ Wa, Wa = wr.alloc (.cells #[.int .i64 a.x, .int .i64 a.y, .int .i64 a.z] 29) := ⟨_, rfl⟩
      have hbA : Below wr.heap.size wr Wa := by rw [hWa]; go_grown
      have ka : Block Wa wr.heap.size 29 #[.int .i64 a.x, .int .i64 a.y, .int .i64 a.z] := by rw [hWa]; exact Block.new _ _ _
      have va := (vb.call hB).call hbA
      have s1 := ka.at 0 rfl
      have s2 := ka.at 1 rfl
      have s3 := ka.at 2 rfl
      have v0 : Wa.cell? ⟨B, 0, none⟩ = some (.int .i64 n) := va.at 0 rfl
      have v1 : Wa.cell? ⟨B, 1, none⟩ = some (.int .i64 (axisOf n u)) := va.at 1 rfl
      have v2 : Wa.cell? ⟨B, 2, none⟩ = some (.int .i64 u.x) := va.at 2 rfl
      have v3 : Wa.cell? ⟨B, 3, none⟩ = some (.int .i64 u.y) := va.at 3 rfl
      have v4 : Wa.cell? ⟨B, 4, none⟩ = some (.int .i64 u.z) := va.at 4 rfl
      have z0 := va.lt
      have z1 := ka.lt
      have hinA := hin.call hbA
      have HWa := Lib.hid hWa
      have hm' := Hm.out
      clear hWa c8
      go_wp2_with fail
      rw [← HWa.out]
      clear e0 e1 e2
      go_region_held3 (fun w' => w'.cell? ⟨B, 0, none⟩ = some (.int .i64 n) ∧ w'.cell? ⟨B, 1, none⟩ = some (.int .i64 (axisOf n u)) ∧ w'.cell? ⟨B, 2, none⟩ = some (.int .i64 u.x) ∧ w'.cell? ⟨B, 3, none⟩ = some (.int .i64 u.y) ∧ w'.cell? ⟨B, 4, none⟩ = some (.int .i64 u.z) ∧
          w'.cell? ⟨wr.heap.size, 0, none⟩ = some (.int .i64 a.x) ∧ w'.cell? ⟨wr.heap.size, 1, none⟩ = some (.int .i64 a.y) ∧ w'.cell? ⟨wr.heap.size, 2, none⟩ = some (.int .i64 a.z)) (first | go_keep | exact ⟨vb4.at 0 rfl, vb4.at 1 rfl, vb4.at 2 rfl, vb4.at 3 rfl, vb4.at 4 rfl, ka4.at 0 rfl, ka4.at 1 rfl, ka4.at 2 rfl⟩)
        (first | (go_at_call 26; refine (Hcell.out _).mono ?_; rintro e w3 ⟨rfl, hb3⟩; have hbw := kbelow hb3; have hcc := kcell' hbw; have hs3 := Nat.le_trans (Nat.le_trans hB.size hbA.size) hbw.size; have hin3 := hinA.call hbw; have vb3 := va.call hbw; have ka3 := ka.call hbw) | (refine step_own rfl _ _ 32 rfl i1 _ 16 Try.underlying32 hinf1 y10 y11 y12 rfl (by decide) rfl (hin3.alloc _) (cellOf (axisOf n u) u a) rfl (by simp [P2.enc, Value.oneCell']) w3.heap.size rfl new_cells ⟨by simp; omega, by unfold maxLen; simp; omega⟩ (by simp; omega) ?_; intro v' w4 hin4 hb4 hg4; have vb4 := (vb3.alloc _).apart (hin3.alloc _) (by decide) hg4; have ka4 := (ka3.alloc _).apart (hin3.alloc _) (by decide) hg4))
      have hB4 : Below w.heap.size w w4 := ((hB.trans ((hbA.trans (hbw.mono hbA.size)).mono hB.size)).alloc hs3 _).trans hb4
      clear hcc v0 v1 v2 v3 v4 s1 s2 s3 hb3 hb4 hg4 hin3 hin hinA hm'
      go_wp2
      go_roundw
      case rel => exact ⟨j + 1, by omega, by go_num, by rw [Hts.out]; exact hin4, hB4⟩
      case measure => simp [intOf]; omega
    · obtain rfl : j = (ptsOf n l).length := by omega
      rw [List.take_length] at hin
      have hm' := Hm.out
      clear c8
      go_wp2_with fail
      refine (sort_cells (enters_of Try.func48 (by kernel_rfl) rfl) compare_space _ hin (by simp; omega)).mono ?_
      rintro e w5 ⟨rfl, ys, hperm, hpw, hown5, hb5⟩
      have hlen : ys.length = (ptsOf n l).length := by rw [hperm.length_eq]; simp
      have hcm := cmpt_perm hperm hpw
      have Hcm := Lib.hid hcm
      have Hlen := Lib.hid hlen
      have Hperm := Lib.hid hperm
      have Hpw := Lib.hid hpw
      clear hcm hlen hperm hpw
      go_wp2_with fail
      refine (Compact_cells _ hown5 (by rw [Hlen.out]; omega)).mono ?_
      rintro e w6 ⟨v6, rfl, hown6, hb6⟩
      rw [Hcm.out] at hown6
      have hfin : ∃ v, (Ending.returned v6) = .returned v ∧ Own w.heap.size w6 52 2 P2.enc v (sorted2 (cellsL n l u)) ∧ Below w.heap.size w w6 := ⟨v6, rfl, hown6, (hB.trans hb5).trans hb6⟩
      have Hfin := Lib.hid hfin
      clear hfin hown6 hb6 hb5 hown5 hin
      go_wp2
      go_ret
      exact Hfin.out

set_option maxHeartbeats 1000000 in
theorem Cells_space (n : Int) (u : P3) (p : Option Addr) (c : Nat) (l : List Iq) (pv : Option Addr) (cv : Nat) (vs : List Vr) (w : World) (hR : RecOf w.heap.size w p l pv vs) :
    Calls Try.prog 7 #[.agg #[.int .i64 n, .slice p l.length c, .slice pv vs.length cv], .agg #[.int .i64 u.x, .int .i64 u.y, .int .i64 u.z]] w (CellsIs n u l vs w) := by
  obtain ⟨W0, hW0⟩ : ∃ W0, W0 = (w.alloc (.cells #[.int .i64 n, .slice p l.length c, .slice pv vs.length cv] 27)).alloc (.cells #[.int .i64 u.x, .int .i64 u.y, .int .i64 u.z] 29) := ⟨_, rfl⟩
  have hb0 : Below w.heap.size w W0 := by rw [hW0]; go_grown
  have HW0 := Lib.hid hW0
  clear hW0
  by_cases hz : askE n l vs u = 0
  · obtain ⟨hrec, hax⟩ := askE_zero hz
    have hv := look_yes n u p c l pv cv vs W0 (hR.call hb0) hrec hax
    have hm := (recB_parts hrec).2.1
    have Hv := Lib.hid hv
    have Hz := Lib.hid hz
    have Hm := Lib.hid hm
    clear hv hz hR hrec hm
    go_enter Try.func7, Try.ntmps7
    go_wp2_with fail
    rw [← HW0.out]
    refine Hv.out.mono ?_
    rintro e w1 ⟨Bv, rfl, hview, hb⟩
    have hb1 := via hb0 hb
    clear hb Hv
    go_wp2_with fail
    refine (cells_space Bv n u p c l pv cv vs w1 hview hax Hm.out).mono ?_
    rintro e w2 ⟨v, rfl, hown, hb⟩
    have hfin : CellsIs n u l vs w (.returned (.tuple #[v, .int .i64 0])) w2 := ⟨v, by rw [Hz.out], by rw [if_pos Hz.out]; exact Own.mono hown hb1.size, via hb1 hb⟩
    have Hfin := Lib.hid hfin
    clear hfin hown hb
    go_wp2
    go_ret2
    exact Hfin.out
  · have hfin : ∀ w', Below w.heap.size w w' → CellsIs n u l vs w (.returned (.tuple #[.slice none 0 0, .int .i64 (askE n l vs u)])) w' := fun w' h => ⟨_, rfl, by rw [if_neg hz]; exact Own.nil _ _ _ _ _, h⟩
    have Hfin := Lib.hid hfin
    have hv := look_no n u p c l pv cv vs W0 (hR.call hb0) hz
    clear hfin hR
    generalize askE n l vs u = x at *
    have hne : (x != 0) = true := by rw [bne_iff_ne]; exact hz
    have Hv := Lib.hid hv
    clear hv hz
    go_enter Try.func7, Try.ntmps7
    go_wp2_with fail
    rw [← HW0.out]
    refine Hv.out.mono ?_
    rintro e w1 ⟨rfl, hb⟩
    have hb1 := via hb0 hb
    clear hb Hv
    go_wp2
    go_ret2
    exact Hfin.out _ hb1
end Go.Proofs.Ytaimeemdmklmbaa
