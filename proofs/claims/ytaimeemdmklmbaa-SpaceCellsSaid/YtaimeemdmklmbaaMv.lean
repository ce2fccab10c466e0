/- Lists of lists of cells; the moves of all arguments by the reference of layer 4. -/
import Derived.Test.YtaimeemdmklmbaaRf4c
import Derived.Test.YtaimeemdmklmbaaKit2
import Derived.Deep.DrawnRows
import Derived.Deep.RegionHeld3
set_option linter.all false
namespace Go.Proofs.Ytaimeemdmklmbaa
open Go.RowKit Go.Shelf
attribute [local go_sem ↓] Go.wp_at_zero Go.wp_at_succ

/-- The moves of all arguments. -/
def movesOf (k : Int) (u : P3) (vs : List Vr) : List (List P2) := vs.map fun v => v.args.map fun a => negC (cellOf k u a.p)
/-- A slice of slices of cells that a call has made. -/
def Own2 (base : Nat) (w : World) (v : Value) (xss : List (List P2)) : Prop :=
  ∃ ss : List (Value × List P2), ss.map (·.2) = xss ∧ Own base w 32 1 (fun s => [s.1]) v ss ∧ ∀ s ∈ ss, Own base w 52 2 P2.enc s.1 s.2
theorem Own2.call {base : Nat} {w w' : World} {v : Value} {xss : List (List P2)} (h : Own2 base w v xss) (hb : Below w.heap.size w w') : Own2 base w' v xss := by
  obtain ⟨ss, h1, h2, h3⟩ := h
  exact ⟨ss, h1, h2.call hb, fun s hs => (h3 s hs).call hb⟩
theorem Own2.mono {base base' : Nat} {w : World} {v : Value} {xss : List (List P2)} (h : Own2 base w v xss) (hb : base' ≤ base) : Own2 base' w v xss := by
  obtain ⟨ss, h1, h2, h3⟩ := h
  exact ⟨ss, h1, Own.mono h2 hb, fun s hs => Own.mono (h3 s hs) hb⟩
theorem Own2.nil (base : Nat) (w : World) : Own2 base w (.slice none 0 0) [] := ⟨[], rfl, Own.nil _ _ _ _ _, by simp⟩
theorem Own2.push {base : Nat} {w w' : World} {v v' s : Value} {ss : List (Value × List P2)} {xs : List P2} {tmp : Obj} (h2 : Own base w 32 1 (fun s : Value × List P2 => [s.1]) v ss) (h3 : ∀ s ∈ ss, Own base w 52 2 P2.enc s.1 s.2) (hs : Own base w 52 2 P2.enc s xs)
    (hn : Own base w' 32 1 (fun s : Value × List P2 => [s.1]) v' (ss ++ [(s, xs)])) (hg : (w.alloc tmp).grownBy w' v.ownBlock) : Own2 base w' v' (ss.map (·.2) ++ [xs]) := by
  refine ⟨ss ++ [(s, xs)], by simp, hn, fun t ht => ?_⟩
  rcases List.mem_append.1 ht with ht | ht
  · exact ((h3 t ht).alloc tmp).apart (h2.alloc tmp) (by decide) hg
  · obtain rfl : t = (s, xs) := by simpa using ht
    exact (hs.alloc tmp).apart (h2.alloc tmp) (by decide) hg
/-- Where the list with an index lies. -/
theorem Own2.at {base : Nat} {w : World} {v : Value} {xss : List (List P2)} (h : Own2 base w v xss) {i : Nat} (hi : i < xss.length) : ∃ b cap p c, v = .slice (some ⟨b, 0, none⟩) xss.length cap ∧ b < w.heap.size ∧ w.cell? ⟨b, i, none⟩ = some (.slice p (xss[i]!).length c) ∧ Row w.heap.size w p 2 P2.enc xss[i]! := by
  obtain ⟨ss, rfl, h2, h3⟩ := h
  have hi' : i < ss.length := by simpa using hi
  obtain ⟨p, cap, rfl, hrow⟩ := h2.row (fun _ => rfl)
  obtain ⟨g, cap', hg, _, hlt⟩ := h2.head (by rintro rfl; simp at hi')
  obtain ⟨b, off, hp, hb, hc⟩ := hrow.at hi'
  have hmem : ss[i]! ∈ ss := by rw [getElem!_pos ss i hi']; exact List.getElem_mem hi'
  obtain ⟨q, c, hq, hr⟩ := (h3 _ hmem).row (fun _ => rfl)
  simp only [Value.slice.injEq] at hg
  obtain ⟨hg1, _, hg3⟩ := hg
  rw [hg1] at hp
  simp only [Option.some.injEq, Addr.mk.injEq] at hp
  obtain ⟨rfl, rfl, _⟩ := hp
  have hx : (ss.map (·.2))[i]! = (ss[i]!).2 := by rw [getElem!_pos _ i hi, getElem!_pos ss i hi']; simp
  refine ⟨g, cap, q, c, by rw [hg1]; simp, hb, ?_, ?_⟩
  · have h0 := hc 0 (by decide)
    rw [hx, ← hq]
    simpa using h0
  · rw [hx]; exact hr
theorem Own2.form {base : Nat} {w : World} {v : Value} {xss : List (List P2)} (h : Own2 base w v xss) : ∃ p cap, v = .slice p xss.length cap := by
  obtain ⟨ss, rfl, h2, h3⟩ := h
  obtain ⟨p, cap, hv⟩ := h2.form
  exact ⟨p, cap, by rw [hv]; simp⟩

theorem scanB_args {m n : Int} : ∀ {vs : List Vr} {seen : List ByteArray}, scanB m n seen vs = true → ∀ v ∈ vs, varB m n v = true
  | [], _, _, v, hv => by simp at hv
  | x :: r, seen, h, v, hv => by
    rw [scanB] at h
    simp only [Bool.and_eq_true] at h
    rcases List.mem_cons.1 hv with e | e
    · rw [e]; exact h.1.1
    · exact scanB_args h.2 v e
theorem varB_args' {m n : Int} {v : Vr} (h : varB m n v = true) : ∀ a ∈ v.args, agB m n a = true := by
  unfold varB at h
  simp only [Bool.and_eq_true] at h
  exact List.all_eq_true.1 h.2
theorem recB_args {n : Int} {l : List Iq} {vs : List Vr} (h : recB n l vs = true) {v : Vr} (hv : v ∈ vs) {a : Ag} (ha : a ∈ v.args) : flatB a.p.x a.p.y a.p.z n 3 = true ∧ (0 ≤ a.v ∧ a.v ≤ (vs.length : Int) - 1) := by
  have := varB_args' (scanB_args (recB_parts h).2.2.2 v hv) a ha
  simpa [agB] using this
theorem flat_bd3 {x y z n m : Int} (h : flatB x y z n m = true) {k : Int} (hk : m ≤ k) : bd3 x y z k := by
  rw [flatB_iff] at h
  unfold bd3
  omega

theorem infoCell : (Try.prog.info? 52).map (fun i => (i.zero, i.size, i.bytes)) = some (some (.agg #[.int .i64 0, .int .i64 0]), 2, 16) := by kernel_rfl
theorem infoCells : (Try.prog.info? 32).map (fun i => (i.zero, i.size, i.bytes)) = some (some (.slice none 0 0), 1, 24) := by kernel_rfl

/-- What Moves returns. -/
def MovesIs (n : Int) (u : P3) (l : List Iq) (vs : List Vr) (w : World) (e : Ending) (w' : World) : Prop :=
  ∃ v, e = .returned (.tuple #[v, .int .i64 (askE n l vs u)]) ∧ Own2 w.heap.size w' v (if askE n l vs u = 0 then movesOf (axisOf n u) u vs else []) ∧ Below w.heap.size w w'

set_option maxRecDepth 100000 in
set_option maxHeartbeats 4000000 in
theorem Moves_ref4 (n : Int) (u : P3) (p : Option Addr) (c : Nat) (l : List Iq) (pv : Option Addr) (cv : Nat) (vs : List Vr) (w : World) (hR : RecOf w.heap.size w p l pv vs) :
    Calls Try.prog 12 #[.agg #[.int .i64 n, .slice p l.length c, .slice pv vs.length cv], .agg #[.int .i64 u.x, .int .i64 u.y, .int .i64 u.z]] w (MovesIs n u l vs w) := by
  obtain ⟨W0, hW0⟩ : ∃ W0, W0 = (w.alloc (.cells #[.int .i64 n, .slice p l.length c, .slice pv vs.length cv] 27)).alloc (.cells #[.int .i64 u.x, .int .i64 u.y, .int .i64 u.z] 29) := ⟨_, rfl⟩
  have hb0 : Below w.heap.size w W0 := by rw [hW0]; go_grown
  have k0 : Block W0 w.heap.size 27 #[.int .i64 n, .slice p l.length c, .slice pv vs.length cv] := by rw [hW0]; exact (Block.new _ _ _).alloc _
  have k1 : Block W0 (w.heap.size + 1) 29 #[.int .i64 u.x, .int .i64 u.y, .int .i64 u.z] := by rw [hW0]; exact Block.make _ _ (by simp)
  have hv := Asked_ref4 n u p c l pv cv vs W0 (hR.call hb0)
  have HW0 := Lib.hid hW0
  clear hW0
  by_cases hz : askE n l vs u = 0
  · obtain ⟨hrec, hax⟩ := askE_zero hz
    have hR0 := hR.call hb0
    rw [hz] at hv
    have Hv := Lib.hid hv
    have Hz := Lib.hid hz
    have Hrec := Lib.hid hrec
    have HR := Lib.hid hR0
    clear hv hz hrec hR hR0
    obtain ⟨i1, hinf1, y10, y11, y12⟩ := info_parts infoCell
    obtain ⟨i2, hinf2, y20, y21, y22⟩ := info_parts infoCells
    go_enter Try.func12, Try.ntmps12
    go_wp2_with fail
    rw [← HW0.out]
    refine Hv.out.mono ?_
    rintro e w1 ⟨rfl, hb⟩
    have k0 := k0.call hb
    have k1 := k1.call hb
    have hb1 := via hb0 hb
    have HR1 := Lib.hid (HR.out.call hb)
    have hl0 := k0.lt
    have hl1 := k1.lt
    have hfew := HR.out.few.2
    clear hb Hv HR
    go_wp2_with fail
    go_loopw [7, 8] (fun v x wr => ∃ j : Nat, j ≤ vs.length ∧ x = .int .i64 j ∧ Own2 w1.heap.size wr v (movesOf (axisOf n u) u (vs.take j)) ∧ Below w1.heap.size w1 wr) (fun _ x _ => vs.length - (intOf x).toNat)
    case atStart => exact ⟨0, Nat.zero_le _, rfl, Own2.nil _ _, Below.refl _ _⟩
    case round =>
      obtain ⟨j, hj, rfl, hown, hB⟩ := hrel
      obtain ⟨wo, hwo⟩ : ∃ wo, wo = wr := ⟨_, rfl⟩
      subst hwo
      have q0 := k0.call hB
      have q1 := k1.call hB
      have c0 := q0.cell
      have c1 := q1.cell
      have HR2 := Lib.hid (HR1.out.call hB)
      by_cases hlt : j < vs.length
      · obtain ⟨b, off, rfl, hbs, e0, e1, e2, e3, e4, e5, e6⟩ := (HR1.out.vars.below hB (Nat.le_refl _)).vr hlt
        have hbb : b < wo.heap.size := Nat.lt_of_lt_of_le hbs hB.size
        have hts := take_snoc hlt
        obtain ⟨hd, hmem⟩ := tail_mem hlt
        have hmv : movesOf (axisOf n u) u (vs.take (j + 1)) = movesOf (axisOf n u) u (vs.take j) ++ [(vs[j]!).args.map fun a => negC (cellOf (axisOf n u) u a.p)] := by rw [hts]; simp [movesOf]
        have hargs := HR1.out.args _ hmem
        have hsm := HR1.out.small _ hmem
        have hval := fun a ha => recB_args Hrec.out hmem (a := a) ha
        have Hmv := Lib.hid hmv
        have Hval := Lib.hid hval
        clear hmv hval hts hd hmem e0 e1 e3 e4 e5 e6
        generalize vs[j]! = x at *
        go_wp2_with fail
        go_loopw [9, 10] (fun v y wr => ∃ k : Nat, k ≤ x.args.length ∧ y = .int .i64 k ∧ Own wo.heap.size wr 52 2 P2.enc v ((x.args.take k).map fun a => negC (cellOf (axisOf n u) u a.p)) ∧ Below wo.heap.size wo wr) (fun _ y _ => x.args.length - (intOf y).toNat)
        case atStart => exact ⟨0, Nat.zero_le _, rfl, Own.nil _ _ _ _ _, Below.refl _ _⟩
        case round =>
          obtain ⟨k, hk, rfl, hin, hBi⟩ := hrel
          have r0 := q0.call hBi
          have r1 := q1.call hBi
          have d0 := r0.cell
          have d1 := r1.cell
          have d2 : wr.cell? ⟨b, off + j * 7 + 2, none⟩ = some (.slice x.ap x.args.length x.ac) := (hBi.cell (p := ⟨b, off + j * 7 + 2, none⟩) hbb).trans e2
          by_cases hlk : k < x.args.length
          · obtain ⟨b2, off2, hp2, hbs2, g0, g1, g2, g3⟩ := ((hargs.below hB (Nat.le_refl _)).below hBi hB.size).ag hlk
            have hbb2 : b2 < wr.heap.size := Nat.lt_of_lt_of_le hbs2 (Nat.le_trans hB.size hBi.size)
            obtain ⟨hd, hmem⟩ := tail_mem hlk
            have hts : ((x.args.take (k + 1)).map fun a => negC (cellOf (axisOf n u) u a.p)) = ((x.args.take k).map fun a => negC (cellOf (axisOf n u) u a.p)) ++ [negC (cellOf (axisOf n u) u (x.args[k]!).p)] := by rw [take_snoc hlk]; simp
            have Hts := Lib.hid hts
            have hbd := flat_bd3 (Hval.out _ hmem).1 (show (3 : Int) ≤ 1000 by omega)
            have hmv := fun W => Move_ref4 n u (x.args[k]!) (.slice p l.length c) (.slice (some ⟨b, off, none⟩) vs.length cv) W hax hbd
            have Hmove := Lib.hid hmv
            rw [hp2] at d2
            clear hd hmem hts hbd hmv
            generalize x.args[k]! = a at *
            have hn1 : wr.cell? ⟨w.heap.size, 0, none⟩ = some (.int .i64 n) := r0.at 0 rfl
            have hn2 : wr.cell? ⟨w.heap.size, 1, none⟩ = some (.slice p l.length c) := r0.at 1 rfl
            have hn3 : wr.cell? ⟨w.heap.size, 2, none⟩ = some (.slice (some ⟨b, off, none⟩) vs.length cv) := r0.at 2 rfl
            have hu1 : wr.cell? ⟨w.heap.size + 1, 0, none⟩ = some (.int .i64 u.x) := r1.at 0 rfl
            have hu2 : wr.cell? ⟨w.heap.size + 1, 1, none⟩ = some (.int .i64 u.y) := r1.at 1 rfl
            have hu3 : wr.cell? ⟨w.heap.size + 1, 2, none⟩ = some (.int .i64 u.z) := r1.at 2 rfl
            have z0 := r0.lt
            have z1 := r1.lt
            have z2 : b < wr.heap.size := Nat.lt_of_lt_of_le hbb hBi.size
            have y0 := q0.lt
            have y1 := q1.lt
            have y2 : b2 < wo.heap.size := Nat.lt_of_lt_of_le hbs2 hB.size
            have j0 : (0 : Int) ≤ (j : Int) := Int.natCast_nonneg _
            have j1 : (j : Int) < (vs.length : Int) := by omega
            have k0' : (0 : Int) ≤ (k : Int) := Int.natCast_nonneg _
            have k1' : (k : Int) < (x.args.length : Int) := by omega
            clear d0 d1
            go_wp2_with fail
            go_region_held3 (fun w' => w'.cell? ⟨w.heap.size, 0, none⟩ = some (.int .i64 n) ∧ w'.cell? ⟨w.heap.size, 1, none⟩ = some (.slice p l.length c) ∧ w'.cell? ⟨w.heap.size, 2, none⟩ = some (.slice (some ⟨b, off, none⟩) vs.length cv) ∧
                w'.cell? ⟨w.heap.size + 1, 0, none⟩ = some (.int .i64 u.x) ∧ w'.cell? ⟨w.heap.size + 1, 1, none⟩ = some (.int .i64 u.y) ∧ w'.cell? ⟨w.heap.size + 1, 2, none⟩ = some (.int .i64 u.z) ∧
                w'.cell? ⟨b, off + j * 7 + 2, none⟩ = some (.slice (some ⟨b2, off2, none⟩) x.args.length x.ac) ∧
                w'.cell? ⟨b2, off2 + k * 4, none⟩ = some (.int .i64 a.v) ∧ w'.cell? ⟨b2, off2 + k * 4 + 1, none⟩ = some (.int .i64 a.p.x) ∧ w'.cell? ⟨b2, off2 + k * 4 + 2, none⟩ = some (.int .i64 a.p.y) ∧ w'.cell? ⟨b2, off2 + k * 4 + 3, none⟩ = some (.int .i64 a.p.z)) (go_keep)
              (first | (go_at_call 28; refine (Hmove.out _).mono ?_; rintro e w3 ⟨rfl, hb3⟩; have hcc := kcell hb3; have hs3 := Nat.le_trans hBi.size (kbelow hb3).size; have hin3 := hin.drew.call hb3) | (refine step_own rfl _ _ 32 rfl i1 _ 16 Try.underlying32 hinf1 y10 y11 y12 rfl (by decide) rfl (hin3.alloc _) (negC (cellOf (axisOf n u) u a.p)) rfl (by simp [P2.enc, Value.oneCell']) w3.heap.size rfl new_cells ⟨by simp; omega, by unfold maxLen; simp; omega⟩ (by simp; omega) ?_; intro v' w4 hin4 hb4 hg4; have hcc4 := kcell' hb4))
            have hBi4 : Below wo.heap.size wo w4 := ((hBi.trans ((kbelow hb3).mono hBi.size)).alloc hs3 _).trans hb4
            clear hcc hcc4 hn1 hn2 hn3 hu1 hu2 hu3 g0 g1 g2 g3 d2 hb4 hb3 hg4 hin3 hin e2 c0 c1
            go_wp2
            go_roundw
            case rel => exact ⟨k + 1, by omega, by go_num, by rw [Hts.out]; exact hin4, hBi4⟩
            case measure => simp [intOf]; omega
          · obtain rfl : k = x.args.length := by omega
            rw [List.take_length] at hin
            obtain ⟨ss, hss, ho, hi⟩ := hown.call hBi
            have hslen : ss.length = j := by
              have h0 := congrArg List.length hss
              simp only [List.length_map, movesOf, List.length_take] at h0
              omega
            obtain ⟨pi, ci, hu⟩ := hin.form
            rw [List.length_map] at hu
            subst hu
            have hwz : w1.heap.size ≤ wr.heap.size := Nat.le_trans hB.size hBi.size
            have Hss := Lib.hid hss
            clear hss
            go_wp2_with (at_builtin; go_loud (refine wpList_own' rfl _ _ 38 rfl i2 _ 24 Try.underlying38 hinf2 y20 y21 y22 rfl (by decide) rfl (ho.alloc _) ((.slice pi x.args.length ci, x.args.map fun a => negC (cellOf (axisOf n u) u a.p)) : Value × List P2) rfl (by simp [Value.oneCell']) wr.heap.size rfl new_cells ⟨by omega, by unfold maxLen; omega⟩ (by simp; omega) ?_; intro v' w4 hn4 hb4 hg4))
            have hpush := Own2.push ho hi (Own.mono hin hB.size) hn4 hg4
            rw [Hss.out] at hpush
            have hB4 : Below w1.heap.size w1 w4 := (((hB.trans (hBi.mono hB.size)).alloc hwz _).trans hb4)
            clear hn4 hb4 hg4 ho hi hin d0 d1 d2 e2 c0 c1
            go_wp2
            go_roundw
            case rel => exact ⟨j + 1, by omega, by go_num, by rw [Hmv.out]; exact hpush, hB4⟩
            case measure => simp [intOf]; omega
      · obtain rfl : j = vs.length := by omega
        rw [List.take_length] at hown
        have hfin : MovesIs n u l vs w (.returned (.tuple #[u7, .int .i64 0])) wo := ⟨u7, by rw [Hz.out], by rw [if_pos Hz.out]; exact hown.mono hb1.size, hb1.trans (hB.mono hb1.size)⟩
        go_wp2
        go_ret2
        exact hfin
  · have hfin : ∀ w', Below w.heap.size w w' → MovesIs n u l vs w (.returned (.tuple #[.slice none 0 0, .int .i64 (askE n l vs u)])) w' := fun w' h => ⟨_, rfl, by rw [if_neg hz]; exact Own2.nil _ _, h⟩
    have Hfin := Lib.hid hfin
    clear hfin hR
    generalize askE n l vs u = x at *
    have hne : (x != 0) = true := by rw [bne_iff_ne]; exact hz
    have Hv := Lib.hid hv
    clear hv hz
    go_enter Try.func12, Try.ntmps12
    go_wp2_with fail
    rw [← HW0.out]
    refine Hv.out.mono ?_
    rintro e w1 ⟨rfl, hb⟩
    have hb1 := via hb0 hb
    clear hb Hv
    go_wp2
    go_ret2
    exact Hfin.out _ hb1
end Go.Proofs.Ytaimeemdmklmbaa
