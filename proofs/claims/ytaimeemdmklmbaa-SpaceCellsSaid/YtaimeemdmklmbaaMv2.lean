/- The moves of all arguments by package space. -/
import Derived.Test.YtaimeemdmklmbaaMv
import Derived.Test.YtaimeemdmklmbaaKit2
set_option linter.all false
namespace Go.Proofs.Ytaimeemdmklmbaa
open Go.RowKit Go.Shelf
attribute [local go_sem ↓] Go.wp_at_zero Go.wp_at_succ

theorem flat_mono {x y z n m k : Int} (h : flatB x y z n m = true) (hk : m ≤ k) : flatB x y z n k = true := by
  rw [flatB_iff] at *
  omega

set_option maxRecDepth 100000 in
set_option maxHeartbeats 4000000 in
theorem Moves_space (n : Int) (u : P3) (p : Option Addr) (c : Nat) (l : List Iq) (pv : Option Addr) (cv : Nat) (vs : List Vr) (w : World) (hR : RecOf w.heap.size w p l pv vs) :
    Calls Try.prog 11 #[.agg #[.int .i64 n, .slice p l.length c, .slice pv vs.length cv], .agg #[.int .i64 u.x, .int .i64 u.y, .int .i64 u.z]] w (MovesIs n u l vs w) := by
  obtain ⟨W0, hW0⟩ : ∃ W0, W0 = (w.alloc (.cells #[.int .i64 n, .slice p l.length c, .slice pv vs.length cv] 27)).alloc (.cells #[.int .i64 u.x, .int .i64 u.y, .int .i64 u.z] 29) := ⟨_, rfl⟩
  have hb0 : Below w.heap.size w W0 := by rw [hW0]; go_grown
  have k0 : Block W0 w.heap.size 27 #[.int .i64 n, .slice p l.length c, .slice pv vs.length cv] := by rw [hW0]; exact (Block.new _ _ _).alloc _
  have HW0 := Lib.hid hW0
  clear hW0
  by_cases hz : askE n l vs u = 0
  · obtain ⟨hrec, hax⟩ := askE_zero hz
    have hR0 := hR.call hb0
    have hv := look_yes n u p c l pv cv vs W0 hR0 hrec hax
    have Hv := Lib.hid hv
    have Hz := Lib.hid hz
    have Hrec := Lib.hid hrec
    have HR := Lib.hid hR0
    clear hv hz hrec hR hR0
    obtain ⟨i1, hinf1, y10, y11, y12⟩ := info_parts infoCell
    obtain ⟨i2, hinf2, y20, y21, y22⟩ := info_parts infoCells
    go_enter Try.func11, Try.ntmps11
    go_wp2_with fail
    rw [← HW0.out]
    refine Hv.out.mono ?_
    rintro e w1 ⟨Bv, rfl, hview, hb⟩
    have k0 := k0.call hb
    have hb1 := via hb0 hb
    have HR1 := Lib.hid (HR.out.call hb)
    have hl0 := k0.lt
    have hfew := HR.out.few.2
    have c0 := k0.cell
    clear hb Hv HR
    go_wp2_with fail
    clear c0
    go_loopw [8, 27] (fun v x wr => ∃ j : Nat, j ≤ vs.length ∧ x = .int .i64 j ∧ Own2 w1.heap.size wr v (movesOf (axisOf n u) u (vs.take j)) ∧ Below w1.heap.size w1 wr) (fun _ x _ => vs.length - (intOf x).toNat)
    case atStart => exact ⟨0, Nat.zero_le _, rfl, Own2.nil _ _, Below.refl _ _⟩
    case round =>
      obtain ⟨j, hj, rfl, hown, hB⟩ := hrel
      obtain ⟨wo, hwo⟩ : ∃ wo, wo = wr := ⟨_, rfl⟩
      subst hwo
      have vw := hview.call hB
      by_cases hlt : j < vs.length
      · obtain ⟨b, off, rfl, hbs, e0, e1, e2, e3, e4, e5, e6⟩ := (HR1.out.vars.below hB (Nat.le_refl _)).vr hlt
        have hbb : b < wo.heap.size := Nat.lt_of_lt_of_le hbs hB.size
        have hts := take_snoc hlt
        obtain ⟨hd, hmem⟩ := tail_mem hlt
        have hmv : movesOf (axisOf n u) u (vs.take (j + 1)) = movesOf (axisOf n u) u (vs.take j) ++ [(vs[j]!).args.map fun a => negC (cellOf (axisOf n u) u a.p)] := by rw [hts]; simp [movesOf]
        have hargs := HR1.out.args _ hmem
        have hsm := HR1.out.small _ hmem
        have hval := fun a ha => recB_args Hrec.out hmem (a := a) ha
        have Hmv := Lib.hid hmv
        have Hval := Lib.hid hval
        clear hmv hval hts hd hmem
        generalize vs[j]! = x at *
        obtain ⟨Wx, hWx⟩ : ∃ Wx, Wx = wo.alloc (.cells #[.string x.name, .int .i64 x.op, .slice x.ap x.args.length x.ac, .int .i64 x.i0, .int .i64 x.i1, .int .i64 x.i2, .int .i64 x.i3] 47) := ⟨_, rfl⟩
        have kx : Block Wx wo.heap.size 47 #[.string x.name, .int .i64 x.op, .slice x.ap x.args.length x.ac, .int .i64 x.i0, .int .i64 x.i1, .int .i64 x.i2, .int .i64 x.i3] := by rw [hWx]; exact Block.new _ _ _
        have hbx : Below wo.heap.size wo Wx := by rw [hWx]; go_grown
        have vx := vw.call hbx
        have HWx := Lib.hid hWx
        clear hWx
        go_wp2_with fail
        rw [← HWx.out]
        clear e0 e1 e2 e3 e4 e5 e6
        go_loopw [11, 34] (fun v y wr => ∃ k : Nat, k ≤ x.args.length ∧ y = .int .i64 k ∧ Own Wx.heap.size wr 52 2 P2.enc v ((x.args.take k).map fun a => negC (cellOf (axisOf n u) u a.p)) ∧ Below Wx.heap.size Wx wr) (fun _ y _ => x.args.length - (intOf y).toNat)
        case atStart => exact ⟨0, Nat.zero_le _, rfl, Own.nil _ _ _ _ _, Below.refl _ _⟩
        case round =>
          obtain ⟨k, hk, rfl, hin, hBi⟩ := hrel
          obtain ⟨qq, qc, vb, hvr⟩ := vx.call hBi
          have d0 := vb.cell
          by_cases hlk : k < x.args.length
          · obtain ⟨b2, off2, hp2, hbs2, g0, g1, g2, g3⟩ := (((hargs.below hB (Nat.le_refl _)).below hbx hB.size).below hBi (Nat.le_trans hB.size hbx.size)).ag hlk
            have hsz1 : w1.heap.size ≤ wr.heap.size := Nat.le_trans hB.size (Nat.le_trans hbx.size hBi.size)
            have hbb2 : b2 < wr.heap.size := Nat.lt_of_lt_of_le hbs2 hsz1
            obtain ⟨hd, hmem⟩ := tail_mem hlk
            have hts : ((x.args.take (k + 1)).map fun a => negC (cellOf (axisOf n u) u a.p)) = ((x.args.take k).map fun a => negC (cellOf (axisOf n u) u a.p)) ++ [negC (cellOf (axisOf n u) u (x.args[k]!).p)] := by rw [take_snoc hlk]; simp
            have Hts := Lib.hid hts
            have hfl := flat_mono (Hval.out _ hmem).1 (show (3 : Int) ≤ 1000 by omega)
            have hcb := cellOf_bd (k := axisOf n u) (axis_bd3 hax) (flat_bd3 hfl (Int.le_refl _))
            have hmv := fun W => cell_space n u (x.args[k]!).p W hax hfl
            have Hcell := Lib.hid hmv
            rw [hp2] at *
            clear hd hmem hts hfl hmv
            generalize x.args[k]! = a at *
            obtain ⟨⟨q1, q2⟩, q3, q4⟩ := hcb
            obtain ⟨Wa, hWa⟩ : ∃ Wa, Wa = wr.alloc (.cells #[.int .i64 a.v, .int .i64 a.p.x, .int .i64 a.p.y, .int .i64 a.p.z] 69) := ⟨_, rfl⟩
            have hbA : Below wr.heap.size wr Wa := by rw [hWa]; go_grown
            have ka : Block Wa wr.heap.size 69 #[.int .i64 a.v, .int .i64 a.p.x, .int .i64 a.p.y, .int .i64 a.p.z] := by rw [hWa]; exact Block.new _ _ _
            have va := vb.call hbA
            have s1 := ka.at 1 rfl
            have s2 := ka.at 2 rfl
            have s3 := ka.at 3 rfl
            have v0 : Wa.cell? ⟨Bv, 0, none⟩ = some (.int .i64 n) := va.at 0 rfl
            have v1 : Wa.cell? ⟨Bv, 1, none⟩ = some (.int .i64 (axisOf n u)) := va.at 1 rfl
            have v2 : Wa.cell? ⟨Bv, 2, none⟩ = some (.int .i64 u.x) := va.at 2 rfl
            have v3 : Wa.cell? ⟨Bv, 3, none⟩ = some (.int .i64 u.y) := va.at 3 rfl
            have v4 : Wa.cell? ⟨Bv, 4, none⟩ = some (.int .i64 u.z) := va.at 4 rfl
            have z0 := va.lt
            have z1 := ka.lt
            have nb0 : ¬ Wa.heap.size = Bv := by omega
            have nb1 : ¬ Wa.heap.size = wr.heap.size := by omega
            have HWa := Lib.hid hWa
            clear hWa d0
            go_wp2_with fail
            rw [← HWa.out]
            clear g0 g1 g2 g3
            go_region_held3 (fun w' => w'.cell? ⟨Bv, 0, none⟩ = some (.int .i64 n) ∧ w'.cell? ⟨Bv, 1, none⟩ = some (.int .i64 (axisOf n u)) ∧ w'.cell? ⟨Bv, 2, none⟩ = some (.int .i64 u.x) ∧ w'.cell? ⟨Bv, 3, none⟩ = some (.int .i64 u.y) ∧ w'.cell? ⟨Bv, 4, none⟩ = some (.int .i64 u.z) ∧
                w'.cell? ⟨wr.heap.size, 1, none⟩ = some (.int .i64 a.p.x) ∧ w'.cell? ⟨wr.heap.size, 2, none⟩ = some (.int .i64 a.p.y) ∧ w'.cell? ⟨wr.heap.size, 3, none⟩ = some (.int .i64 a.p.z)) (go_keep)
              (first | (go_at_call 26; refine (Hcell.out _).mono ?_; rintro e w3 ⟨rfl, hb3⟩; have hbw : Below Wa.heap.size Wa w3 := (by first | exact kbelow hb3 | exact kbelowA hb3); have hcc := kcell' hbw; (try (have kc := Block.call (Block.make (w := Wa.drew) (B := Wa.heap.size) 52 #[.int .i64 0, .int .i64 0] rfl) hb3; have kc1 := kc.cell; have kc2 := kc.frozen))))
            all_goals
              have hwr3 : Below wr.heap.size wr w3 := hbA.trans (hbw.mono hbA.size)
              have hbw' : Below Wx.heap.size Wx w3 := hBi.trans (hwr3.mono hBi.size)
              have hs3 := hbw'.size
              have hs4 := hwr3.size
              have hs5 := hbA.size
              have hs6 := hBi.size
              clear hcc v0 v1 v2 v3 v4 s1 s2 s3
              go_wp2_with (at_builtin; go_loud (refine wpList_own' rfl _ _ 32 rfl i1 _ 16 Try.underlying32 hinf1 y10 y11 y12 rfl (by decide) rfl (Own.alloc (Own.call hin (by go_grown <;> first | omega | (simp; omega))) _) (negC (cellOf (axisOf n u) u a.p)) rfl (by simp [P2.enc, Value.oneCell']) _ rfl (new_cellsB (by simp)) ⟨by simp; omega, by unfold maxLen; simp; omega⟩ (by simp; omega) ?_; intro v' w4 hin4 hb4 hg4))
              have hB4 : Below Wx.heap.size Wx w4 := Below.trans (by go_grown <;> first | omega | (simp; omega)) hb4
              clear hb4 hg4
              go_wp2
              go_roundw
              case rel => exact ⟨k + 1, by omega, by go_num, by rw [Hts.out]; exact hin4, hB4⟩
              case measure => simp [intOf]; omega
          · obtain rfl : k = x.args.length := by omega
            rw [List.take_length] at hin
            have hbo : Below wo.heap.size wo wr := hbx.trans (hBi.mono hbx.size)
            obtain ⟨ss, hss, ho, hi⟩ := hown.call hbo
            have hslen : ss.length = j := by
              have h0 := congrArg List.length hss
              simp only [List.length_map, movesOf, List.length_take] at h0
              omega
            obtain ⟨pi, ci, hu⟩ := hin.form
            rw [List.length_map] at hu
            subst hu
            have hwz : w1.heap.size ≤ wr.heap.size := Nat.le_trans hB.size hbo.size
            have Hss := Lib.hid hss
            clear hss d0
            go_wp2_with (at_builtin; go_loud (refine wpList_own' rfl _ _ 38 rfl i2 _ 24 Try.underlying38 hinf2 y20 y21 y22 rfl (by decide) rfl (ho.alloc _) ((.slice pi x.args.length ci, x.args.map fun a => negC (cellOf (axisOf n u) u a.p)) : Value × List P2) rfl (by simp [Value.oneCell']) wr.heap.size rfl new_cells ⟨by omega, by unfold maxLen; omega⟩ (by simp; omega) ?_; intro v' w4 hn4 hb4 hg4))
            have hpush := Own2.push ho hi (Own.mono hin (Nat.le_trans hB.size hbx.size)) hn4 hg4
            rw [Hss.out] at hpush
            have hB4 : Below w1.heap.size w1 w4 := (((hB.trans (hbo.mono hB.size)).alloc hwz _).trans hb4)
            clear hn4 hb4 hg4 ho hi hin
            go_wp2
            go_roundw
            case rel => exact ⟨j + 1, by omega, by go_num, by rw [Hmv.out]; exact hpush, hB4⟩
            case measure => simp [intOf]; omega
      · obtain rfl : j = vs.length := by omega
        rw [List.take_length] at hown
        have hfin : MovesIs n u l vs w (.returned (.tuple #[u8, .int .i64 0])) wo := ⟨u8, by rw [Hz.out], by rw [if_pos Hz.out]; exact hown.mono hb1.size, hb1.trans (hB.mono hb1.size)⟩
        go_wp2
        go_ret2
        exact hfin
  · have hfin : ∀ w', Below w.heap.size w w' → MovesIs n u l vs w (.returned (.tuple #[.slice none 0 0, .int .i64 (askE n l vs u)])) w' := fun w' h => ⟨_, rfl, by rw [if_neg hz]; exact Own2.nil _ _, h⟩
    have Hfin := Lib.hid hfin
    have hv := look_no n u p c l pv cv vs W0 (hR.call hb0) hz
    clear hfin hR
    generalize askE n l vs u = x at *
    have hne : (x != 0) = true := by rw [bne_iff_ne]; exact hz
    have Hv := Lib.hid hv
    clear hv hz
    go_enter Try.func11, Try.ntmps11
    go_wp2_with fail
    rw [← HW0.out]
    refine Hv.out.mono ?_
    rintro e w1 ⟨rfl, hb⟩
    have hb1 := via hb0 hb
    clear hb Hv
    go_wp2
    go_ret2
    exact Hfin.out _ hb1
end Go.Proofs.Ytaimeemdmklmbaa
