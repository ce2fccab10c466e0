/- How many points lie in one cell at most, by the reference of layer 4. -/
import Derived.Test.YtaimeemdmklmbaaCk
import Derived.RegionTactic
set_option linter.all false
namespace Go.Proofs.Ytaimeemdmklmbaa
open Go.RowKit Go.Shelf
open Go.WideMaps (KeyLaw)
attribute [local go_sem ↓] Go.wp_at_zero Go.wp_at_succ

/-- The greatest number of times that one cell comes. -/
def busyS (cs : List P2) : List P2 × Int := cs.foldl (fun s c => (s.1 ++ [c], max s.2 ((s.1.count c : Int) + 1))) ([], 0)
def busyOf (cs : List P2) : Int := (busyS cs).2
theorem busyS_fst (cs : List P2) : (busyS cs).1 = cs := by
  have h : ∀ (l : List P2) (s : List P2 × Int), (l.foldl (fun s c => (s.1 ++ [c], max s.2 ((s.1.count c : Int) + 1))) s).1 = s.1 ++ l := by
    intro l
    induction l with
    | nil => simp
    | cons x r ih => intro s; simp [ih]
  simpa [busyS] using h cs ([], 0)
theorem busyOf_snoc (cs : List P2) (c : P2) : busyOf (cs ++ [c]) = max (busyOf cs) ((cs.count c : Int) + 1) := by
  have h := busyS_fst cs
  unfold busyOf busyS at *
  rw [List.foldl_append]
  simp only [List.foldl_cons, List.foldl_nil]
  rw [h]
theorem busyOf_nil : busyOf [] = 0 := rfl
theorem cntF_val (l : List P2) (x : P2) : ((cntF l x).map fun i : Int => Value.int .i64 i).getD (.int .i64 0) = .int .i64 (l.count x) := by
  have h := cntF_get l x
  cases h1 : cntF l x with
  | none => rw [h1] at h; simp only [Option.getD_none] at h; simp [← h]
  | some v => rw [h1] at h; simp only [Option.getD_some] at h; simp [h]
theorem count_snoc (l : List P2) (c : P2) : ((l ++ [c]).count c : Int) = (l.count c : Int) + 1 := by simp

/-- What Busy returns. -/
def BusyIs (n : Int) (u : P3) (l : List Iq) (vs : List Vr) (w : World) (e : Ending) (w' : World) : Prop :=
  e = .returned (.tuple #[.int .i64 (if askE n l vs u = 0 then busyOf (cellsL n l u) else 0), .int .i64 (askE n l vs u)]) ∧ Below w.heap.size w w'

set_option maxRecDepth 100000 in
set_option maxHeartbeats 4000000 in
theorem Busy_ref4 (n : Int) (u : P3) (p : Option Addr) (c : Nat) (l : List Iq) (pv : Option Addr) (cv : Nat) (vs : List Vr) (w : World) (hR : RecOf w.heap.size w p l pv vs) :
    Calls Try.prog 10 #[.agg #[.int .i64 n, .slice p l.length c, .slice pv vs.length cv], .agg #[.int .i64 u.x, .int .i64 u.y, .int .i64 u.z]] w (BusyIs n u l vs w) := by
  obtain ⟨W0, hW0⟩ : ∃ W0, W0 = (w.alloc (.cells #[.int .i64 n, .slice p l.length c, .slice pv vs.length cv] 27)).alloc (.cells #[.int .i64 u.x, .int .i64 u.y, .int .i64 u.z] 29) := ⟨_, rfl⟩
  have hb0 : Below w.heap.size w W0 := by rw [hW0]; go_grown
  have k0 : Block W0 w.heap.size 27 #[.int .i64 n, .slice p l.length c, .slice pv vs.length cv] := by rw [hW0]; exact (Block.new _ _ _).alloc _
  have k1 : Block W0 (w.heap.size + 1) 29 #[.int .i64 u.x, .int .i64 u.y, .int .i64 u.z] := by rw [hW0]; exact Block.make _ _ (by simp)
  have hv := Asked_ref4 n u p c l pv cv vs W0 (hR.call hb0)
  have HW0 := Lib.hid hW0
  clear hW0
  have hmm := @run_makeMap Try.prog
  by_cases hz : askE n l vs u = 0
  · obtain ⟨hrec, hax⟩ := askE_zero hz
    have hR0 := hR.call hb0
    rw [hz] at hv
    have Hv := Lib.hid hv
    have Hz := Lib.hid hz
    obtain ⟨hd, hm, _, _⟩ := recB_parts hrec
    obtain ⟨_, hl6, hq⟩ := domB_n hd
    have Hq := Lib.hid hq
    have Hm := Lib.hid hm
    have HR := Lib.hid hR0
    clear hv hz hrec hR hR0 hd hm hq
    go_enter Try.func10, Try.ntmps10
    go_wp2_with fail
    rw [← HW0.out]
    refine Hv.out.mono ?_
    rintro e w1 ⟨rfl, hb⟩
    have k0 := k0.call hb
    have k1 := k1.call hb
    have hb1 := via hb0 hb
    have HR1 := Lib.hid (HR.out.call hb).ineqs
    have c0 := k0.cell
    have c1 := k1.cell
    have hl0 := k0.lt
    have hl1 := k1.lt
    clear hb Hv HR
    go_wp2_with fail
    obtain ⟨Bm, hBm⟩ : ∃ Bm, Bm = w1.heap.size := ⟨_, rfl⟩
    obtain ⟨W1, hW1⟩ : ∃ W1, W1 = w1.alloc (.map #[] 0) := ⟨_, rfl⟩
    have hbm : Below w1.heap.size w1 W1 := by rw [hW1]; go_grown
    have hM0 : MapIs W1 Try.prog 52 cellV (fun i : Int => .int .i64 i) w1.heap.size 0 (cntF ([] : List P2)) 0 := by rw [hW1, cntF_nil]; exact MapIs.made _ _ _ _ _
    rw [← hW1]
    refine (All_ref n p c l W1 hl6 Hq.out (HR1.out.call hbm)).mono ?_
    rintro e w2 ⟨v0, rfl, hpts, hb⟩
    obtain ⟨q, qc, rfl⟩ := hpts.form
    have hW1s : W1.heap.size = Bm + 1 := by rw [hW1, World.size_alloc, hBm]
    rw [hW1s] at hpts
    have k0 := (k0.call hbm).call hb
    have k1 := (k1.call hbm).call hb
    have hM1 := hM0.below hb hM0.lt
    have hb2 : Below w.heap.size w w2 := via (via hb1 hbm) hb
    have hm0 : w.heap.size + 1 < Bm := by omega
    rw [← hBm] at hM1
    have HBm := Lib.hid hBm
    clear hb hbm hW1 hM0 hW1s c0 c1 HR1 hb1 hl0 hl1
    rw [← hBm]
    clear hBm
    go_wp2_with fail
    go_loopw [8, 10] (fun v x wr => ∃ (j m : Nat), j ≤ (ptsOf n l).length ∧ v = .int .i64 (busyOf ((cellsL n l u).take j)) ∧ x = .int .i64 j ∧ MapIs wr Try.prog 52 cellV (fun i : Int => .int .i64 i) Bm j (cntF ((cellsL n l u).take j)) m ∧
        Own (Bm + 1) wr 29 3 P3.enc (.slice q (ptsOf n l).length qc) (ptsOf n l) ∧ Block wr w.heap.size 27 #[.int .i64 n, .slice p l.length c, .slice pv vs.length cv] ∧ Block wr (w.heap.size + 1) 29 #[.int .i64 u.x, .int .i64 u.y, .int .i64 u.z] ∧ Below w.heap.size w wr) (fun _ x _ => (ptsOf n l).length - (intOf x).toNat)
    case atStart => exact ⟨0, 0, Nat.zero_le _, rfl, rfl, hM1, hpts, k0, k1, hb2⟩
    case round =>
      obtain ⟨j, m, hj, rfl, rfl, hM, hpt, r0, r1, hB⟩ := hrel
      have Hpt := Lib.hid hpt
      have HM := Lib.hid hM
      clear hpt hM k0 k1 hpts hM1
      by_cases hlt : j < (ptsOf n l).length
      · obtain ⟨q', qc', hqe, hrow⟩ := Hpt.out.row (fun _ => rfl)
        obtain ⟨rfl, _, rfl⟩ := Value.slice.inj hqe
        obtain ⟨b, off, rfl, hbs, e0, e1, e2⟩ := hrow.pt hlt
        obtain ⟨hd, hmem⟩ := tail_mem hlt
        have hfl := flat_mono (pts_mem hmem).1 (show (20 : Int) ≤ 1000 by omega)
        have hbd := flat_bd3 hfl (show (1000 : Int) ≤ 1000 by omega)
        have hcb := cellOf_bd (k := axisOf n u) (axis_bd3 hax) hbd
        have hts : (cellsL n l u).take (j + 1) = (cellsL n l u).take j ++ [cellOf (axisOf n u) u (ptsOf n l)[j]!] := by
          unfold cellsL
          rw [← List.map_take, ← List.map_take, take_snoc hlt]; simp
        have hcell := fun W => Fold_ref4 n u (ptsOf n l)[j]! W hax hbd
        have Hcell := Lib.hid hcell
        have Hcb := Lib.hid hcb
        have hcl : ((cellsL n l u).take j).length ≤ j := by rw [List.length_take]; omega
        clear hd hmem hfl hcell hbd hcb hrow hqe
        generalize cellOf (axisOf n u) u (ptsOf n l)[j]! = cc at *
        generalize (ptsOf n l)[j]! = a at *
        generalize (cellsL n l u).take j = cs at *
        have hbz := busyOf_snoc cs cc
        have hcz := count_snoc cs cc
        have hkl := count_le cs cc
        rw [← hts] at hbz
        have Hts := Lib.hid hts
        have Hbz := Lib.hid hbz
        have Hcz := Lib.hid hcz
        clear hts hbz hcz
        have s0 := r0.at 0 rfl
        have s1 := r1.at 0 rfl
        have s2 := r1.at 1 rfl
        have s3 := r1.at 2 rfl
        have z0 := r0.lt
        have z1 := r1.lt
        have j0 : (0 : Int) ≤ (j : Int) := Int.natCast_nonneg _
        have j1 : (j : Int) < ((ptsOf n l).length : Int) := by omega
        have nb0 : ¬ wr.heap.size = w.heap.size := by omega
        have nb1 : ¬ wr.heap.size = w.heap.size + 1 := by omega
        have nb2 : ¬ wr.heap.size = b := by omega
        go_wp2_with fail
        go_region_held3 (fun w' => w'.cell? ⟨w.heap.size, 0, none⟩ = some (.int .i64 n) ∧ w'.cell? ⟨w.heap.size + 1, 0, none⟩ = some (.int .i64 u.x) ∧ w'.cell? ⟨w.heap.size + 1, 1, none⟩ = some (.int .i64 u.y) ∧ w'.cell? ⟨w.heap.size + 1, 2, none⟩ = some (.int .i64 u.z) ∧
            w'.cell? ⟨b, off + j * 3, none⟩ = some (.int .i64 a.x) ∧ w'.cell? ⟨b, off + j * 3 + 1, none⟩ = some (.int .i64 a.y) ∧ w'.cell? ⟨b, off + j * 3 + 2, none⟩ = some (.int .i64 a.z)) (go_keep)
          (first | (go_at_call 27; refine (Hcell.out _).mono ?_; rintro e w3 ⟨rfl, hb3⟩; have hbw : Below wr.heap.size wr w3 := (by first | exact kbelow hb3 | exact kbelowA hb3); have hcc := kcell' hbw; (try (have kc := Block.call (Block.make (w := wr.drew) (B := wr.heap.size) 52 #[.int .i64 0, .int .i64 0] rfl) hb3; have kc1 := kc.cell; have kc2 := kc.frozen))))
        all_goals
          first
            | (obtain ⟨X, hX⟩ : ∃ X, X = w3.alloc (.cells #[.int .i64 cc.x, .int .i64 cc.y] 52) := ⟨_, rfl⟩
               rw [← hX]
               have k9 : Block X w3.heap.size 52 #[.int .i64 cc.x, .int .i64 cc.y] := (by rw [hX]; exact Block.new _ _ _)
               have hbX : Below wr.heap.size wr X := (by rw [hX]; exact hbw.alloc hbw.size _)
               obtain ⟨B9, hB9⟩ : ∃ B9, B9 = w3.heap.size := ⟨_, rfl⟩
               rw [← hB9] at k9
               have hge : wr.heap.size ≤ B9 := (by rw [hB9]; exact hbw.size))
            | (obtain ⟨X, hX⟩ : ∃ X, X = (w3.setCell ⟨wr.heap.size, 0, none⟩ (.int .i64 cc.x)).setCell ⟨wr.heap.size, 1, none⟩ (.int .i64 cc.y) := ⟨_, rfl⟩
               rw [← hX]
               have k9 : Block X wr.heap.size 52 #[.int .i64 cc.x, .int .i64 cc.y] := (by rw [hX]; exact (kc.set 0 (.int .i64 cc.x) (by decide)).set 1 (.int .i64 cc.y) (by simp))
               have hbX : Below wr.heap.size wr X := (by rw [hX]; exact (hbw.setCell (Nat.le_refl _) _).setCell (Nat.le_refl _) _)
               obtain ⟨B9, hB9⟩ : ∃ B9, B9 = wr.heap.size := ⟨_, rfl⟩
               rw [← hB9] at k9
               have hge : wr.heap.size ≤ B9 := Nat.le_of_eq hB9.symm)
          rw [← hB9]
          have hMX := HM.out.below hbX HM.out.lt
          have hptX := Hpt.out.call hbX
          have r0X := r0.call hbX
          have r1X := r1.call hbX
          have hBX : Below w.heap.size w X := hB.trans (hbX.mono hB.size)
          have hmw : Bm < wr.heap.size := HM.out.lt
          have hm1 := Hm.out
          obtain ⟨c0, st, wa, w5, hE, hga, hL0, hL1, hS, hM5, hg5⟩ := hMX.drew.bump keyCell Try.underlying61 (0 : Int) (fun W => Try.zeroValue3 W) (by unfold maxLen; omega) cellV_inj cc ((cs.count cc : Int) + 1) (keyOf_cell cc Hcb.out)
          rw [cntF_val] at hL0 hL1
          rw [cntF_put, ← Hts.out] at hM5
          have hl5 := hM5.look (Maps.Keyed.of_law keyCell) Try.underlying61 (Try.zeroValue3 w5) cc (keyOf_cell cc Hcb.out)
          rw [cntF_val, Hts.out, Hcz.out] at hl5
          have k5 := Block.past k9.drew hg5 (by omega)
          have d9 := k9.cell
          have d5 := k5.cell
          have hpt5 := Own.past hptX.drew hg5 (Nat.lt_succ_self _)
          have r05 := Block.past r0X.drew hg5 (by omega)
          have r15 := Block.past r1X.drew hg5 (by omega)
          have hB5 : Below w.heap.size w w5 := hBX.drew.grown hg5 hBX.size (fun j e => by cases e; omega)
          have HM5 := Lib.hid hM5
          have hbzz := Hbz.out
          have hk0 : (0 : Int) ≤ (cs.count cc : Int) := Int.natCast_nonneg _
          have hk1 : (cs.count cc : Int) ≤ 1000 := by omega
          generalize (cs.count cc : Int) = k at *
          clear hX hB9 hcc hbw s0 s1 s2 s3 e0 e1 e2 hbX hb3 hMX hptX r0X r1X hM5 hg5 hga
          try clear kc kc1 kc2
          unfold cellV at hl5 hE hL0 hL1
          go_wp2_with fail
          go_region
          all_goals
            go_wp2_with fail
            go_roundw
            case rel => exact ⟨j + 1, _, by omega, by rw [Hbz.out], by go_num, HM5.out, hpt5, r05, r15, hB5⟩
            case measure => simp [intOf]; omega
      · obtain rfl : j = (ptsOf n l).length := by omega
        have hall : (cellsL n l u).take (ptsOf n l).length = cellsL n l u := List.take_of_length_le (by rw [cellsL_len]; exact Nat.le_refl _)
        rw [hall]
        have hfin : BusyIs n u l vs w (.returned (.tuple #[.int .i64 (busyOf (cellsL n l u)), .int .i64 0])) wr := ⟨by rw [Hz.out, if_pos rfl], hB⟩
        have Hfin := Lib.hid hfin
        clear hfin hall
        go_wp2
        go_ret2
        exact Hfin.out
  · have hfin : ∀ w', Below w.heap.size w w' → BusyIs n u l vs w (.returned (.tuple #[.int .i64 0, .int .i64 (askE n l vs u)])) w' := fun w' h => ⟨by rw [if_neg hz], h⟩
    have Hfin := Lib.hid hfin
    clear hfin hR
    generalize askE n l vs u = x at *
    have hne : (x != 0) = true := by rw [bne_iff_ne]; exact hz
    have Hv := Lib.hid hv
    clear hv hz
    go_enter Try.func10, Try.ntmps10
    go_wp2_with fail
    rw [← HW0.out]
    refine Hv.out.mono ?_
    rintro e w1 ⟨rfl, hb⟩
    have hb1 := via hb0 hb
    clear hb Hv
    go_wp2
    go_ret2
    exact Hfin.out _ hb1
end Go.Proofs.Ytaimeemdmklmbaa
