/- How many points lie in one cell at most, by package space. -/
import Derived.Test.YtaimeemdmklmbaaBu
set_option linter.all false
namespace Go.Proofs.Ytaimeemdmklmbaa
open Go.RowKit Go.Shelf
open Go.WideMaps (KeyLaw)
attribute [local go_sem ↓] Go.wp_at_zero Go.wp_at_succ

set_option maxRecDepth 100000 in
set_option maxHeartbeats 4000000 in
theorem Busy_space (n : Int) (u : P3) (p : Option Addr) (c : Nat) (l : List Iq) (pv : Option Addr) (cv : Nat) (vs : List Vr) (w : World) (hR : RecOf w.heap.size w p l pv vs) :
    Calls Try.prog 9 #[.agg #[.int .i64 n, .slice p l.length c, .slice pv vs.length cv], .agg #[.int .i64 u.x, .int .i64 u.y, .int .i64 u.z]] w (BusyIs n u l vs w) := by
  obtain ⟨W0, hW0⟩ : ∃ W0, W0 = (w.alloc (.cells #[.int .i64 n, .slice p l.length c, .slice pv vs.length cv] 27)).alloc (.cells #[.int .i64 u.x, .int .i64 u.y, .int .i64 u.z] 29) := ⟨_, rfl⟩
  have hb0 : Below w.heap.size w W0 := by rw [hW0]; go_grown
  have HW0 := Lib.hid hW0
  clear hW0
  have hmm := @run_makeMap Try.prog
  by_cases hz : askE n l vs u = 0
  · obtain ⟨hrec, hax⟩ := askE_zero hz
    have hv := look_yes n u p c l pv cv vs W0 (hR.call hb0) hrec hax
    have hm := (recB_parts hrec).2.1
    have Hv := Lib.hid hv
    have Hz := Lib.hid hz
    have Hm := Lib.hid hm
    clear hv hz hR hrec hm
    go_enter Try.func9, Try.ntmps9
    go_wp2_with fail
    rw [← HW0.out]
    refine Hv.out.mono ?_
    rintro e w1 ⟨Bv, rfl, hview, hb⟩
    have hb1 := via hb0 hb
    obtain ⟨q, qc, vb, hrow⟩ := hview.ex
    have c8 : w1.cell? ⟨Bv, 8, none⟩ = some (.slice q (ptsOf n l).length qc) := vb.at 8 rfl
    have hB0 := vb.lt
    have nbm : ¬ w1.heap.size = Bv := by omega
    have hM0 : MapIs (w1.alloc (.map #[] 0)) Try.prog 52 cellV (fun i : Int => .int .i64 i) w1.heap.size 0 (cntF ([] : List P2)) 0 := by rw [cntF_nil]; exact MapIs.made _ _ _ _ _
    have hbm : Below w1.heap.size w1 (w1.alloc (.map #[] 0)) := by go_grown
    have HM0 := Lib.hid hM0
    clear hb Hv hview hM0
    go_wp2_with fail
    clear c8
    go_loopw [9, 28] (fun v x wr => ∃ (j m : Nat), j ≤ (ptsOf n l).length ∧ v = .int .i64 (busyOf ((cellsL n l u).take j)) ∧ x = .int .i64 j ∧ MapIs wr Try.prog 52 cellV (fun i : Int => .int .i64 i) w1.heap.size j (cntF ((cellsL n l u).take j)) m ∧ Below w1.heap.size w1 wr) (fun _ x _ => (ptsOf n l).length - (intOf x).toNat)
    case atStart => exact ⟨0, 0, Nat.zero_le _, rfl, rfl, HM0.out, hbm⟩
    case round =>
      obtain ⟨j, m, hj, rfl, rfl, hM, hB⟩ := hrel
      have HM := Lib.hid hM
      clear hM HM0 hbm
      by_cases hlt : j < (ptsOf n l).length
      · obtain ⟨b, off, rfl, hbs, e0, e1, e2⟩ := (hrow.below hB (Nat.le_refl _)).pt hlt
        obtain ⟨hd, hmem⟩ := tail_mem hlt
        have hfl := flat_mono (pts_mem hmem).1 (show (20 : Int) ≤ 1000 by omega)
        have hbd := flat_bd3 hfl (show (1000 : Int) ≤ 1000 by omega)
        have hcb := cellOf_bd (k := axisOf n u) (axis_bd3 hax) hbd
        have hts : (cellsL n l u).take (j + 1) = (cellsL n l u).take j ++ [cellOf (axisOf n u) u (ptsOf n l)[j]!] := by
          unfold cellsL
          rw [← List.map_take, ← List.map_take, take_snoc hlt]; simp
        have hcell := fun W => cell_space n u (ptsOf n l)[j]! W hax hfl
        have Hcell := Lib.hid hcell
        have Hcb := Lib.hid hcb
        have hcl : ((cellsL n l u).take j).length ≤ j := by rw [List.length_take]; omega
        clear hd hmem hfl hcell hbd hcb
        generalize cellOf (axisOf n u) u (ptsOf n l)[j]! = cc at *
        generalize (ptsOf n l)[j]! = a at *
        generalize (cellsL n l u).take j = cs at *
        have hbz := busyOf_snoc cs cc
        have hcz := count_snoc cs cc
        have hkl := count_le cs cc
        rw [← hts] at hbz
        have Hts := Lib.hid hts
        have Hbz := Lib.hid hbz
        have Hcz := Lib.hid hcz
        clear hts hbz hcz
        obtain ⟨Wa, hWa⟩ : ∃ Wa, Wa = wr.alloc (.cells #[.int .i64 a.x, .int .i64 a.y, .int .i64 a.z] 29) := ⟨_, rfl⟩
        have hbA : Below wr.heap.size wr Wa := by rw [hWa]; go_grown
        have ka : Block Wa wr.heap.size 29 #[.int .i64 a.x, .int .i64 a.y, .int .i64 a.z] := by rw [hWa]; exact Block.new _ _ _
        have va := ((vb.below hB hB0)).call hbA
        have s1 := ka.at 0 rfl
        have s2 := ka.at 1 rfl
        have s3 := ka.at 2 rfl
        have v0 : Wa.cell? ⟨Bv, 0, none⟩ = some (.int .i64 n) := va.at 0 rfl
        have v1 : Wa.cell? ⟨Bv, 1, none⟩ = some (.int .i64 (axisOf n u)) := va.at 1 rfl
        have v2 : Wa.cell? ⟨Bv, 2, none⟩ = some (.int .i64 u.x) := va.at 2 rfl
        have v3 : Wa.cell? ⟨Bv, 3, none⟩ = some (.int .i64 u.y) := va.at 3 rfl
        have v4 : Wa.cell? ⟨Bv, 4, none⟩ = some (.int .i64 u.z) := va.at 4 rfl
        have z0 := va.lt
        have z1 := ka.lt
        have nb0 : ¬ Wa.heap.size = Bv := by omega
        have nb1 : ¬ Wa.heap.size = wr.heap.size := by omega
        have hMA := HM.out.below hbA HM.out.lt
        have HMA := Lib.hid hMA
        have HWa := Lib.hid hWa
        clear hWa hMA
        go_wp2_with fail
        rw [← HWa.out]
        clear e0 e1 e2
        go_region_held3 (fun w' => w'.cell? ⟨Bv, 0, none⟩ = some (.int .i64 n) ∧ w'.cell? ⟨Bv, 1, none⟩ = some (.int .i64 (axisOf n u)) ∧ w'.cell? ⟨Bv, 2, none⟩ = some (.int .i64 u.x) ∧ w'.cell? ⟨Bv, 3, none⟩ = some (.int .i64 u.y) ∧ w'.cell? ⟨Bv, 4, none⟩ = some (.int .i64 u.z) ∧
            w'.cell? ⟨wr.heap.size, 0, none⟩ = some (.int .i64 a.x) ∧ w'.cell? ⟨wr.heap.size, 1, none⟩ = some (.int .i64 a.y) ∧ w'.cell? ⟨wr.heap.size, 2, none⟩ = some (.int .i64 a.z)) (go_keep)
          (first | (go_at_call 26; refine (Hcell.out _).mono ?_; rintro e w3 ⟨rfl, hb3⟩; have hbw : Below Wa.heap.size Wa w3 := (by first | exact kbelow hb3 | exact kbelowA hb3); have hcc := kcell' hbw; (try (have kc := Block.call (Block.make (w := Wa.drew) (B := Wa.heap.size) 52 #[.int .i64 0, .int .i64 0] rfl) hb3; have kc1 := kc.cell; have kc2 := kc.frozen))))
        all_goals
          first
            | (obtain ⟨X, hX⟩ : ∃ X, X = w3.alloc (.cells #[.int .i64 cc.x, .int .i64 cc.y] 52) := ⟨_, rfl⟩
               rw [← hX]
               have k9 : Block X w3.heap.size 52 #[.int .i64 cc.x, .int .i64 cc.y] := (by rw [hX]; exact Block.new _ _ _)
               have hbX : Below Wa.heap.size Wa X := (by rw [hX]; exact hbw.alloc hbw.size _)
               obtain ⟨B9, hB9⟩ : ∃ B9, B9 = w3.heap.size := ⟨_, rfl⟩
               rw [← hB9] at k9
               have hge : Wa.heap.size ≤ B9 := (by rw [hB9]; exact hbw.size))
            | (obtain ⟨X, hX⟩ : ∃ X, X = (w3.setCell ⟨Wa.heap.size, 0, none⟩ (.int .i64 cc.x)).setCell ⟨Wa.heap.size, 1, none⟩ (.int .i64 cc.y) := ⟨_, rfl⟩
               rw [← hX]
               have k9 : Block X Wa.heap.size 52 #[.int .i64 cc.x, .int .i64 cc.y] := (by rw [hX]; exact (kc.set 0 (.int .i64 cc.x) (by decide)).set 1 (.int .i64 cc.y) (by simp))
               have hbX : Below Wa.heap.size Wa X := (by rw [hX]; exact (hbw.setCell (Nat.le_refl _) _).setCell (Nat.le_refl _) _)
               obtain ⟨B9, hB9⟩ : ∃ B9, B9 = Wa.heap.size := ⟨_, rfl⟩
               rw [← hB9] at k9
               have hge : Wa.heap.size ≤ B9 := Nat.le_of_eq hB9.symm)
          rw [← hB9]
          have hMX := HMA.out.below hbX HMA.out.lt
          have hBX : Below w1.heap.size w1 X := hB.trans ((hbA.trans (hbX.mono hbA.size)).mono hB.size)
          have hmw : w1.heap.size < Wa.heap.size := HMA.out.lt
          have hm1 := Hm.out
          obtain ⟨c0, st, wb, w5, hE, hga, hL0, hL1, hS, hM5, hg5⟩ := hMX.drew.bump keyCell Try.underlying61 (0 : Int) (fun W => Try.zeroValue3 W) (by unfold maxLen; omega) cellV_inj cc ((cs.count cc : Int) + 1) (keyOf_cell cc Hcb.out)
          rw [cntF_val] at hL0 hL1
          rw [cntF_put, ← Hts.out] at hM5
          have hl5 := hM5.look (Maps.Keyed.of_law keyCell) Try.underlying61 (Try.zeroValue3 w5) cc (keyOf_cell cc Hcb.out)
          rw [cntF_val, Hts.out, Hcz.out] at hl5
          have k5 := Block.past k9.drew hg5 (by omega)
          have d9 := k9.cell
          have d5 := k5.cell
          have hB5 : Below w1.heap.size w1 w5 := hBX.drew.grown hg5 hBX.size (fun j e => by cases e; omega)
          have HM5 := Lib.hid hM5
          have hbzz := Hbz.out
          have hk0 : (0 : Int) ≤ (cs.count cc : Int) := Int.natCast_nonneg _
          have hk1 : (cs.count cc : Int) ≤ 1000 := by omega
          generalize (cs.count cc : Int) = k at *
          clear hX hB9 hcc hbw s1 s2 s3 v0 v1 v2 v3 v4 hbX hb3 hMX hM5 hg5 hga
          try clear kc kc1 kc2
          unfold cellV at hl5 hE hL0 hL1
          go_wp2_with fail
          go_region
          all_goals
            go_wp2_with fail
            go_roundw
            case rel => exact ⟨j + 1, _, by omega, by rw [Hbz.out], by go_num, HM5.out, hB5⟩
            case measure => simp [intOf]; omega
      · obtain rfl : j = (ptsOf n l).length := by omega
        have hall : (cellsL n l u).take (ptsOf n l).length = cellsL n l u := List.take_of_length_le (by rw [cellsL_len]; exact Nat.le_refl _)
        rw [hall]
        have hfin : BusyIs n u l vs w (.returned (.tuple #[.int .i64 (busyOf (cellsL n l u)), .int .i64 0])) wr := ⟨by rw [Hz.out, if_pos rfl], via hb1 hB⟩
        have Hfin := Lib.hid hfin
        clear hfin hall
        go_wp2
        go_ret2
        exact Hfin.out
  · have hfin : ∀ w', Below w.heap.size w w' → BusyIs n u l vs w (.returned (.tuple #[.int .i64 0, .int .i64 (askE n l vs u)])) w' := fun w' h => ⟨by rw [if_neg hz], h⟩
    have Hfin := Lib.hid hfin
    have hv := look_no n u p c l pv cv vs W0 (hR.call hb0) hz
    clear hfin hR
    generalize askE n l vs u = x at *
    have hne : (x != 0) = true := by rw [bne_iff_ne]; exact hz
    have Hv := Lib.hid hv
    clear hv hz
    go_enter Try.func9, Try.ntmps9
    go_wp2_with fail
    rw [← HW0.out]
    refine Hv.out.mono ?_
    rintro e w1 ⟨rfl, hb⟩
    have hb1 := via hb0 hb
    clear hb Hv
    go_wp2
    go_ret2
    exact Hfin.out _ hb1
end Go.Proofs.Ytaimeemdmklmbaa
