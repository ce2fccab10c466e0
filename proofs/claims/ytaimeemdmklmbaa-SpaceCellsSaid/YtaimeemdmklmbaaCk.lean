/- The cells of all points by the reference of layer 4. -/
import Derived.Test.YtaimeemdmklmbaaKc
import Derived.Test.YtaimeemdmklmbaaCs
import Derived.Test.YtaimeemdmklmbaaCl
import Derived.Test.YtaimeemdmklmbaaRf4c
set_option linter.all false
namespace Go.Proofs.Ytaimeemdmklmbaa
open Go.RowKit Go.Shelf
open Go.WideMaps (KeyLaw)
attribute [local go_sem ↓] Go.wp_at_zero Go.wp_at_succ

set_option maxRecDepth 100000 in
set_option maxHeartbeats 4000000 in
theorem cells_ref4 (n : Int) (u : P3) (p : Option Addr) (c : Nat) (l : List Iq) (pv : Option Addr) (cv : Nat) (vs : List Vr) (w : World) (hR : RecOf w.heap.size w p l pv vs) (hrec : recB n l vs = true) (hax : 0 ≤ axisOf n u) :
    Calls Try.prog 25 #[.agg #[.int .i64 n, .slice p l.length c, .slice pv vs.length cv], .agg #[.int .i64 u.x, .int .i64 u.y, .int .i64 u.z]] w fun e w' => ∃ v, e = .returned v ∧ Own w.heap.size w' 52 2 P2.enc v (sorted2 (cellsL n l u)) ∧ Below w.heap.size w w' := by
  obtain ⟨W0, hW0⟩ : ∃ W0, W0 = (w.alloc (.cells #[.int .i64 n, .slice p l.length c, .slice pv vs.length cv] 27)).alloc (.cells #[.int .i64 u.x, .int .i64 u.y, .int .i64 u.z] 29) := ⟨_, rfl⟩
  have hb0 : Below w.heap.size w W0 := by rw [hW0]; go_grown
  have k0 : Block W0 w.heap.size 27 #[.int .i64 n, .slice p l.length c, .slice pv vs.length cv] := by rw [hW0]; exact (Block.new _ _ _).alloc _
  have k1 : Block W0 (w.heap.size + 1) 29 #[.int .i64 u.x, .int .i64 u.y, .int .i64 u.z] := by rw [hW0]; exact Block.make _ _ (by simp)
  have hrow0 := (hR.call hb0).ineqs
  obtain ⟨hd, hm, _, _⟩ := recB_parts hrec
  obtain ⟨_, hl6, hq⟩ := domB_n hd
  obtain ⟨Bm, hBm⟩ : ∃ Bm, Bm = w.heap.size + 1 + 1 := ⟨_, rfl⟩
  have hBs : W0.heap.size = Bm := by rw [hW0, hBm]; simp
  have HW0 := Lib.hid hW0
  have Hq := Lib.hid hq
  have Hm := Lib.hid hm
  have hmm := @run_makeMap Try.prog
  clear hW0 hR hrec hd hq hm
  obtain ⟨i1, hinf1, y10, y11, y12⟩ := info_parts infoCell
  go_enter Try.func25, Try.ntmps25
  go_wp2_with fail
  rw [← HW0.out]
  obtain ⟨W1, hW1⟩ : ∃ W1, W1 = W0.alloc (.map #[] 0) := ⟨_, rfl⟩
  have hbm : Below W0.heap.size W0 W1 := by rw [hW1]; go_grown
  have hM0 : MapIs W1 Try.prog 52 cellV (fun b : Bool => .bool b) W0.heap.size 0 (seen2 []) 0 := by rw [hW1, seen2_nil]; exact MapIs.made _ _ _ _ _
  rw [← hW1]
  refine (All_ref n p c l W1 hl6 Hq.out (hrow0.call hbm)).mono ?_
  rintro e w1 ⟨v0, rfl, hpts, hb⟩
  obtain ⟨q, qc, rfl⟩ := hpts.form
  have hW1s : W1.heap.size = Bm + 1 := by rw [hW1, World.size_alloc, hBs]
  rw [hW1s] at hpts
  have k0 := (k0.call hbm).call hb
  have k1 := (k1.call hbm).call hb
  have hM1 := hM0.below hb hM0.lt
  have hb1 : Below w.heap.size w w1 := via (via hb0 hbm) hb
  have hm0 : w.heap.size + 1 < Bm := by omega
  rw [hBs] at hM1
  rw [← hBm]
  clear hb hbm hW1 hM0 hrow0 HW0 hb0 hBs hW1s
  go_wp2_with fail
  go_loopw [5, 8] (fun v x wr => ∃ (j m : Nat) (ys : List P2), j ≤ (ptsOf n l).length ∧ ys.length ≤ j ∧ x = .int .i64 j ∧ MapIs wr Try.prog 52 cellV (fun b : Bool => .bool b) Bm j (seen2 ((cellsL n l u).take j)) m ∧ (∀ x, x ∈ ys ↔ x ∈ (cellsL n l u).take j) ∧ Own (Bm + 1) wr 52 2 P2.enc v ys ∧
      Own (Bm + 1) wr 29 3 P3.enc (.slice q (ptsOf n l).length qc) (ptsOf n l) ∧ Block wr w.heap.size 27 #[.int .i64 n, .slice p l.length c, .slice pv vs.length cv] ∧ Block wr (w.heap.size + 1) 29 #[.int .i64 u.x, .int .i64 u.y, .int .i64 u.z] ∧ Below w.heap.size w wr) (fun _ x _ => (ptsOf n l).length - (intOf x).toNat)
  case atStart => exact ⟨0, 0, [], Nat.zero_le _, Nat.zero_le _, rfl, hM1, by simp, Own.nil _ _ _ _ _, hpts, k0, k1, hb1⟩
  case round =>
    obtain ⟨j, m, ys, hj, hyl, rfl, hM, hI, hown, hpt, r0, r1, hB⟩ := hrel
    have HI := Lib.hid hI
    have Hpt := Lib.hid hpt
    have HM := Lib.hid hM
    clear hI hpt hM k0 k1 hpts hM1
    by_cases hlt : j < (ptsOf n l).length
    · obtain ⟨q', qc', hqe, hrow⟩ := Hpt.out.row (fun _ => rfl)
      obtain ⟨rfl, _, rfl⟩ := Value.slice.inj hqe
      obtain ⟨b, off, rfl, hbs, e0, e1, e2⟩ := hrow.pt hlt
      obtain ⟨hd, hmem⟩ := tail_mem hlt
      have hfl := flat_mono (pts_mem hmem).1 (show (20 : Int) ≤ 1000 by omega)
      have hbd := flat_bd3 hfl (show (1000 : Int) ≤ 1000 by omega)
      have hcb := cellOf_bd (k := axisOf n u) (axis_bd3 hax) hbd
      have hts : (cellsL n l u).take (j + 1) = (cellsL n l u).take j ++ [cellOf (axisOf n u) u (ptsOf n l)[j]!] := by
        unfold cellsL
        rw [← List.map_take, ← List.map_take, take_snoc hlt]; simp
      have Hts := Lib.hid hts
      have hcell := fun W => Fold_ref4 n u (ptsOf n l)[j]! W hax hbd
      have Hcell := Lib.hid hcell
      have Hcb := Lib.hid hcb
      clear hd hmem hfl hts hcell hbd hcb hrow hqe
      generalize cellOf (axisOf n u) u (ptsOf n l)[j]! = cc at *
      generalize (ptsOf n l)[j]! = a at *
      have s0 := r0.at 0 rfl
      have s1 := r1.at 0 rfl
      have s2 := r1.at 1 rfl
      have s3 := r1.at 2 rfl
      have z0 := r0.lt
      have z1 := r1.lt
      have j0 : (0 : Int) ≤ (j : Int) := Int.natCast_nonneg _
      have j1 : (j : Int) < ((ptsOf n l).length : Int) := by omega
      have nb0 : ¬ wr.heap.size = w.heap.size := by omega
      have nb1 : ¬ wr.heap.size = w.heap.size + 1 := by omega
      have nb2 : ¬ wr.heap.size = b := by omega
      go_wp2_with fail
      go_region_held3 (fun w' => w'.cell? ⟨w.heap.size, 0, none⟩ = some (.int .i64 n) ∧ w'.cell? ⟨w.heap.size + 1, 0, none⟩ = some (.int .i64 u.x) ∧ w'.cell? ⟨w.heap.size + 1, 1, none⟩ = some (.int .i64 u.y) ∧ w'.cell? ⟨w.heap.size + 1, 2, none⟩ = some (.int .i64 u.z) ∧
          w'.cell? ⟨b, off + j * 3, none⟩ = some (.int .i64 a.x) ∧ w'.cell? ⟨b, off + j * 3 + 1, none⟩ = some (.int .i64 a.y) ∧ w'.cell? ⟨b, off + j * 3 + 2, none⟩ = some (.int .i64 a.z)) (go_keep)
        (first | (go_at_call 27; refine (Hcell.out _).mono ?_; rintro e w3 ⟨rfl, hb3⟩; have hbw : Below wr.heap.size wr w3 := (by first | exact kbelow hb3 | exact kbelowA hb3); have hcc := kcell' hbw; (try (have kc := Block.call (Block.make (w := wr.drew) (B := wr.heap.size) 52 #[.int .i64 0, .int .i64 0] rfl) hb3; have kc1 := kc.cell; have kc2 := kc.frozen))))
      all_goals
        first
          | (obtain ⟨X, hX⟩ : ∃ X, X = w3.alloc (.cells #[.int .i64 cc.x, .int .i64 cc.y] 52) := ⟨_, rfl⟩
             rw [← hX]
             have k9 : Block X w3.heap.size 52 #[.int .i64 cc.x, .int .i64 cc.y] := (by rw [hX]; exact Block.new _ _ _)
             have hbX : Below wr.heap.size wr X := (by rw [hX]; exact hbw.alloc hbw.size _)
             obtain ⟨B9, hB9⟩ : ∃ B9, B9 = w3.heap.size := ⟨_, rfl⟩
             rw [← hB9] at k9
             have hge : wr.heap.size ≤ B9 := (by rw [hB9]; exact hbw.size))
          | (obtain ⟨X, hX⟩ : ∃ X, X = (w3.setCell ⟨wr.heap.size, 0, none⟩ (.int .i64 cc.x)).setCell ⟨wr.heap.size, 1, none⟩ (.int .i64 cc.y) := ⟨_, rfl⟩
             rw [← hX]
             have k9 : Block X wr.heap.size 52 #[.int .i64 cc.x, .int .i64 cc.y] := (by rw [hX]; exact (kc.set 0 (.int .i64 cc.x) (by decide)).set 1 (.int .i64 cc.y) (by simp))
             have hbX : Below wr.heap.size wr X := (by rw [hX]; exact (hbw.setCell (Nat.le_refl _) _).setCell (Nat.le_refl _) _)
             obtain ⟨B9, hB9⟩ : ∃ B9, B9 = wr.heap.size := ⟨_, rfl⟩
             rw [← hB9] at k9
             have hge : wr.heap.size ≤ B9 := Nat.le_of_eq hB9.symm)
        rw [← hB9]
        have hMX := HM.out.below hbX HM.out.lt
        have hownX := hown.call hbX
        have hptX := Hpt.out.call hbX
        have r0X := r0.call hbX
        have r1X := r1.call hbX
        have hBX : Below w.heap.size w X := hB.trans (hbX.mono hB.size)
        have hmw : Bm < wr.heap.size := HM.out.lt
        have hl := hMX.look (Maps.Keyed.of_law keyCell) Try.underlying91 (Try.zeroValue4 X) cc (keyOf_cell cc Hcb.out)
        rw [seen2_val, hBm] at hl
        have d9 := k9.cell
        have hm1 := Hm.out
        clear hX hB9 hcc hbw s0 s1 s2 s3 e0 e1 e2 hbX hb3
        try clear kc kc1 kc2
        unfold cellV at hl
        by_cases hs : cc ∈ (cellsL n l u).take j
        · rw [decide_eq_true hs] at hl
          have hold := seen2_old _ _ hs
          have hst := mem_stay HI.out hs
          rw [← Hts.out] at hold hst
          have Hst := Lib.hid hst
          have hM2 := hMX.mono (Nat.le_succ j)
          rw [← hold] at hM2
          have HM2 := Lib.hid hM2
          clear hs hold hst hM2 hMX
          go_wp2
          go_roundw
          case rel => exact ⟨j + 1, m, ys, by omega, by omega, by go_num, HM2.out, Hst.out, hownX, hptX, r0X, r1X, hBX⟩
          case measure => simp [intOf]; omega
        · rw [decide_eq_false hs] at hl
          have hst := mem_step (c := cc) HI.out
          rw [← Hts.out] at hst
          have Hst := Lib.hid hst
          clear hs hst
          go_wp2_with (first
            | (at_mapUpdate; go_loud (refine wpList_put rfl _ _ _ _ rfl (Maps.Keyed.of_law keyCell) Try.underlying91 (congrArg (fun x => Value.map (some x)) hBm.symm) hMX (by unfold maxLen; omega) cellV_inj cc true rfl rfl (keyOf_cell cc Hcb.out) ?_; intro w4 hM4 hg4; have k9 := k9.past hg4 (by omega); have d9 := k9.cell; have hown4 := hownX.past hg4 (Nat.lt_succ_self _); have hpt4 := hptX.past hg4 (Nat.lt_succ_self _); have r04 := r0X.past hg4 (by omega); have r14 := r1X.past hg4 (by omega); have hB4 : Below w.heap.size w w4 := hBX.grown hg4 hBX.size (fun j e => by cases e; omega); rw [seen2_put, ← Hts.out] at hM4; have hm4 : Bm < w4.heap.size := hM4.lt; clear hownX hptX r0X r1X hg4 hBX hMX))
            | (at_builtin; go_loud (refine wpList_own' rfl _ _ 32 rfl i1 _ 16 Try.underlying32 hinf1 y10 y11 y12 rfl (by decide) rfl (hown4.alloc _) cc rfl (by simp [P2.enc, Value.oneCell']) w4.heap.size rfl new_cells ⟨by omega, by unfold maxLen; omega⟩ (by simp; omega) ?_; intro v5 w5 hown5 hb5 hg5)))
          have hM5 := (hM4.alloc _).below hb5 (Nat.lt_succ_self _)
          have hpt5 := Own.apart (hpt4.alloc _) (hown4.alloc _) (by decide) hg5
          have r05 := (r04.alloc _).below hb5 (by omega)
          have r15 := (r14.alloc _).below hb5 (by omega)
          have hB5 : Below w.heap.size w w5 := (hB4.alloc hB4.size _).trans (hb5.mono (by omega))
          clear hb5 hg5
          go_wp2
          go_roundw
          case rel => exact ⟨j + 1, _, ys ++ [cc], by omega, by simp; omega, by go_num, hM5, Hst.out, hown5, hpt5, r05, r15, hB5⟩
          case measure => simp [intOf]; omega
    · obtain rfl : j = (ptsOf n l).length := by omega
      have hall : (cellsL n l u).take (ptsOf n l).length = cellsL n l u := List.take_of_length_le (by rw [cellsL_len]; exact Nat.le_refl _)
      have hse : sorted2 ys = sorted2 (cellsL n l u) := sorted2_congr (by have := HI.out; rw [hall] at this; exact this)
      obtain ⟨p5, c5, rfl, hrow⟩ := hown.row (fun _ => rfl)
      have hm1 := Hm.out
      go_wp2_with fail
      refine (Sorted_ref4 p5 c5 ys _ hrow (by omega)).mono ?_
      rintro e w5 ⟨v5, rfl, hown5, hb5⟩
      rw [hse] at hown5
      have hfin : ∃ v, (Ending.returned v5) = .returned v ∧ Own w.heap.size w5 52 2 P2.enc v (sorted2 (cellsL n l u)) ∧ Below w.heap.size w w5 := ⟨v5, rfl, hown5.mono hB.size, via hB hb5⟩
      have Hfin := Lib.hid hfin
      clear hfin hown5 hb5 hown hse hall hrow
      go_wp2
      go_ret
      exact Hfin.out

set_option maxHeartbeats 1000000 in
theorem Cells_ref4 (n : Int) (u : P3) (p : Option Addr) (c : Nat) (l : List Iq) (pv : Option Addr) (cv : Nat) (vs : List Vr) (w : World) (hR : RecOf w.heap.size w p l pv vs) :
    Calls Try.prog 8 #[.agg #[.int .i64 n, .slice p l.length c, .slice pv vs.length cv], .agg #[.int .i64 u.x, .int .i64 u.y, .int .i64 u.z]] w (CellsIs n u l vs w) := by
  obtain ⟨W0, hW0⟩ : ∃ W0, W0 = (w.alloc (.cells #[.int .i64 n, .slice p l.length c, .slice pv vs.length cv] 27)).alloc (.cells #[.int .i64 u.x, .int .i64 u.y, .int .i64 u.z] 29) := ⟨_, rfl⟩
  have hb0 : Below w.heap.size w W0 := by rw [hW0]; go_grown
  have k0 : Block W0 w.heap.size 27 #[.int .i64 n, .slice p l.length c, .slice pv vs.length cv] := by rw [hW0]; exact (Block.new _ _ _).alloc _
  have k1 : Block W0 (w.heap.size + 1) 29 #[.int .i64 u.x, .int .i64 u.y, .int .i64 u.z] := by rw [hW0]; exact Block.make _ _ (by simp)
  have hv := Asked_ref4 n u p c l pv cv vs W0 (hR.call hb0)
  have HW0 := Lib.hid hW0
  clear hW0
  by_cases hz : askE n l vs u = 0
  · obtain ⟨hrec, hax⟩ := askE_zero hz
    have hR0 := hR.call hb0
    rw [hz] at hv
    have Hv := Lib.hid hv
    have Hz := Lib.hid hz
    have Hrec := Lib.hid hrec
    have HR := Lib.hid hR0
    clear hv hz hrec hR hR0
    go_enter Try.func8, Try.ntmps8
    go_wp2_with fail
    rw [← HW0.out]
    refine Hv.out.mono ?_
    rintro e w1 ⟨rfl, hb⟩
    have k0 := k0.call hb
    have k1 := k1.call hb
    have hb1 := via hb0 hb
    have HR1 := Lib.hid (HR.out.call hb)
    have c0 := k0.cell
    have c1 := k1.cell
    clear hb Hv HR
    go_wp2_with fail
    refine (cells_ref4 n u p c l pv cv vs w1 HR1.out Hrec.out hax).mono ?_
    rintro e w2 ⟨v, rfl, hown, hb⟩
    have hfin : CellsIs n u l vs w (.returned (.tuple #[v, .int .i64 0])) w2 := ⟨v, by rw [Hz.out], by rw [if_pos Hz.out]; exact Own.mono hown hb1.size, via hb1 hb⟩
    have Hfin := Lib.hid hfin
    clear hfin hown hb c0 c1
    go_wp2
    go_ret2
    exact Hfin.out
  · have hfin : ∀ w', Below w.heap.size w w' → CellsIs n u l vs w (.returned (.tuple #[.slice none 0 0, .int .i64 (askE n l vs u)])) w' := fun w' h => ⟨_, rfl, by rw [if_neg hz]; exact Own.nil _ _ _ _ _, h⟩
    have Hfin := Lib.hid hfin
    clear hfin hR
    generalize askE n l vs u = x at *
    have hne : (x != 0) = true := by rw [bne_iff_ne]; exact hz
    have Hv := Lib.hid hv
    clear hv hz
    go_enter Try.func8, Try.ntmps8
    go_wp2_with fail
    rw [← HW0.out]
    refine Hv.out.mono ?_
    rintro e w1 ⟨rfl, hb⟩
    have hb1 := via hb0 hb
    clear hb Hv
    go_wp2
    go_ret2
    exact Hfin.out _ hb1
end Go.Proofs.Ytaimeemdmklmbaa
