/- The law SpaceCells is true at any recurrence and any direction. -/
import Derived.Test.YtaimeemdmklmbaaLb
import Derived.Test.YtaimeemdmklmbaaBv
set_option linter.all false
namespace Go.Proofs.Ytaimeemdmklmbaa
open Go.RowKit Go.Shelf
attribute [local go_sem ↓] Go.wp_at_zero Go.wp_at_succ
attribute [local go_sem] guardCell eqCell

theorem cellsIf_len {n : Int} {u : P3} {l : List Iq} {vs : List Vr} : (if askE n l vs u = 0 then sorted2 (cellsL n l u) else []).length ≤ 1000 := by
  split
  · rename_i h
    have := (recB_parts (askE_zero h).1).2.1
    have h2 := sorted2_len (cellsL n l u)
    rw [cellsL_len] at h2
    omega
  · simp

theorem movesIf_len {n : Int} {u : P3} {l : List Iq} {vs : List Vr} {B : Nat} {w : World} {p pv : Option Addr} (h : RecOf B w p l pv vs) : ∀ xs ∈ (if askE n l vs u = 0 then movesOf (axisOf n u) u vs else []), xs.length ≤ 10000 := by
  intro xs hx
  split at hx
  · unfold movesOf at hx
    obtain ⟨v, hv, rfl⟩ := List.mem_map.1 hx
    rw [List.length_map]
    exact (h.small v hv).1
  · cases hx
def CellsR (xs : List P2) (er : Int) (w : World) (e : Ending) (w' : World) : Prop := ∃ v, e = .returned (.tuple #[v, .int .i64 er]) ∧ Own w.heap.size w' 52 2 P2.enc v xs ∧ Below w.heap.size w w'
def BusyR (bz er : Int) (w : World) (e : Ending) (w' : World) : Prop := e = .returned (.tuple #[.int .i64 bz, .int .i64 er]) ∧ Below w.heap.size w w'
def MovesR (ms : List (List P2)) (er : Int) (w : World) (e : Ending) (w' : World) : Prop := ∃ v, e = .returned (.tuple #[v, .int .i64 er]) ∧ Own2 w.heap.size w' v ms ∧ Below w.heap.size w w'
/-- Both sides return the same, whatever it is. -/
theorem space_alike (n : Int) (u : P3) (p : Option Addr) (c : Nat) (l : List Iq) (pv : Option Addr) (cv : Nat) (vs : List Vr) (w0 : World) (B : Nat) (h : RecOf B w0 p l pv vs) :
    ∃ (er bz : Int) (xs : List P2) (ms : List (List P2)), xs.length ≤ 1000 ∧ (∀ m ∈ ms, m.length ≤ 10000) ∧ ms.length ≤ 10000 ∧
      (∀ w, RecOf w.heap.size w p l pv vs → Calls Try.prog 7 #[.agg #[.int .i64 n, .slice p l.length c, .slice pv vs.length cv], .agg #[.int .i64 u.x, .int .i64 u.y, .int .i64 u.z]] w (CellsR xs er w)) ∧
      (∀ w, RecOf w.heap.size w p l pv vs → Calls Try.prog 8 #[.agg #[.int .i64 n, .slice p l.length c, .slice pv vs.length cv], .agg #[.int .i64 u.x, .int .i64 u.y, .int .i64 u.z]] w (CellsR xs er w)) ∧
      (∀ w, RecOf w.heap.size w p l pv vs → Calls Try.prog 9 #[.agg #[.int .i64 n, .slice p l.length c, .slice pv vs.length cv], .agg #[.int .i64 u.x, .int .i64 u.y, .int .i64 u.z]] w (BusyR bz er w)) ∧
      (∀ w, RecOf w.heap.size w p l pv vs → Calls Try.prog 10 #[.agg #[.int .i64 n, .slice p l.length c, .slice pv vs.length cv], .agg #[.int .i64 u.x, .int .i64 u.y, .int .i64 u.z]] w (BusyR bz er w)) ∧
      (∀ w, RecOf w.heap.size w p l pv vs → Calls Try.prog 11 #[.agg #[.int .i64 n, .slice p l.length c, .slice pv vs.length cv], .agg #[.int .i64 u.x, .int .i64 u.y, .int .i64 u.z]] w (MovesR ms er w)) ∧
      (∀ w, RecOf w.heap.size w p l pv vs → Calls Try.prog 12 #[.agg #[.int .i64 n, .slice p l.length c, .slice pv vs.length cv], .agg #[.int .i64 u.x, .int .i64 u.y, .int .i64 u.z]] w (MovesR ms er w)) :=
  ⟨askE n l vs u, (if askE n l vs u = 0 then busyOf (cellsL n l u) else 0), (if askE n l vs u = 0 then sorted2 (cellsL n l u) else []), (if askE n l vs u = 0 then movesOf (axisOf n u) u vs else []), cellsIf_len, movesIf_len h, (by split; simp [movesOf]; exact h.few.2; simp),
    fun w hR => Cells_space n u p c l pv cv vs w hR, fun w hR => Cells_ref4 n u p c l pv cv vs w hR, fun w hR => Busy_space n u p c l pv cv vs w hR, fun w hR => Busy_ref4 n u p c l pv cv vs w hR, fun w hR => Moves_space n u p c l pv cv vs w hR, fun w hR => Moves_ref4 n u p c l pv cv vs w hR⟩
set_option maxRecDepth 100000 in
set_option maxHeartbeats 2000000 in
theorem SpaceCells_true (n : Int) (u : P3) (p : Option Addr) (c : Nat) (l : List Iq) (pv : Option Addr) (cv : Nat) (vs : List Vr) (w : World) (hR : RawOf w.heap.size w p l pv vs) :
    Calls Try.prog 3 #[.agg #[.int .i64 n, .slice p l.length c, .slice pv vs.length cv], .agg #[.int .i64 u.x, .int .i64 u.y, .int .i64 u.z]] w fun e w' => e = .returned (.bool true) ∧ Below w.heap.size w w' := by
  obtain ⟨W0, hW0⟩ : ∃ W0, W0 = (w.alloc (.cells #[.int .i64 n, .slice p l.length c, .slice pv vs.length cv] 27)).alloc (.cells #[.int .i64 u.x, .int .i64 u.y, .int .i64 u.z] 29) := ⟨_, rfl⟩
  have hb0 : Below w.heap.size w W0 := by rw [hW0]; go_grown
  have k0 : Block W0 w.heap.size 27 #[.int .i64 n, .slice p l.length c, .slice pv vs.length cv] := by rw [hW0]; exact (Block.new _ _ _).alloc _
  have k1 : Block W0 (w.heap.size + 1) 29 #[.int .i64 u.x, .int .i64 u.y, .int .i64 u.z] := by rw [hW0]; exact Block.make _ _ (by simp)
  have HR := Lib.hid (hR.call hb0)
  have HW0 := Lib.hid hW0
  clear hR hW0
  go_enter Try.func3, Try.ntmps3
  go_wp2_with fail
  rw [← HW0.out]
  refine (Wide_law2 120 n p c l pv cv vs W0 HR.out).mono ?_
  rintro e w1 ⟨⟨b, rfl, hs⟩, hb⟩
  have hb1 := via hb0 hb
  have k0 := k0.call hb
  have k1 := k1.call hb
  have HR1 := Lib.hid (HR.out.call hb)
  have Hs := Lib.hid hs
  clear hb HR hs
  cases b
  · have HR2 := Lib.hid (HR1.out.recOf (Hs.out rfl))
    clear HR1 Hs
    obtain ⟨er, bz, xs, ms, hlen, hmz, hml, h1, h2, h3, h4, h5, h6⟩ := space_alike n u p c l pv cv vs w1 _ HR2.out
    have Hmz := Lib.hid hmz
    have H1 := Lib.hid h1
    have H2 := Lib.hid h2
    have H3 := Lib.hid h3
    have H4 := Lib.hid h4
    have H5 := Lib.hid h5
    have H6 := Lib.hid h6
    clear hmz h1 h2 h3 h4 h5 h6
    have c0 := k0.cell
    have c1 := k1.cell
    go_wp2_with fail
    refine (H1.out w1 HR2.out).mono ?_
    rintro e w2 ⟨va, rfl, ha, hb⟩
    have hb2 := via hb1 hb
    have k0 := k0.call hb
    have k1 := k1.call hb
    have HR3 := Lib.hid (HR2.out.call hb)
    obtain ⟨pa, ca, rfl, ra⟩ := ha.row (fun _ => rfl)
    have Ra := Lib.hid ra
    clear hb HR2 c0 c1 hb1 ha ra
    have c0 := k0.cell
    have c1 := k1.cell
    go_wp2_with fail
    refine (H2.out w2 HR3.out).mono ?_
    rintro e w3 ⟨vb, rfl, hbo, hb⟩
    have hb3 := via hb2 hb
    have k0 := k0.call hb
    have k1 := k1.call hb
    have HR4 := Lib.hid (HR3.out.call hb)
    have Ra3 := Lib.hid (Ra.out.call hb)
    obtain ⟨pb, cb, rfl, rb⟩ := hbo.row (fun _ => rfl)
    have Rb := Lib.hid rb
    clear hb HR3 c0 c1 hb2 hbo rb Ra
    have c0 := k0.cell
    have c1 := k1.cell
    go_wp2_with fail
    refine (H3.out w3 HR4.out).mono ?_
    rintro e w4 ⟨rfl, hb⟩
    have hb4 := via hb3 hb
    have k0 := k0.call hb
    have k1 := k1.call hb
    have HR5 := Lib.hid (HR4.out.call hb)
    have Ra4 := Lib.hid (Ra3.out.call hb)
    have Rb4 := Lib.hid (Rb.out.call hb)
    clear hb HR4 c0 c1 hb3 Ra3 Rb
    have c0 := k0.cell
    have c1 := k1.cell
    go_wp2_with fail
    refine (H4.out w4 HR5.out).mono ?_
    rintro e w5 ⟨rfl, hb⟩
    have hb5 := via hb4 hb
    have k0 := k0.call hb
    have k1 := k1.call hb
    have HR6 := Lib.hid (HR5.out.call hb)
    have Ra5 := Lib.hid (Ra4.out.call hb)
    have Rb5 := Lib.hid (Rb4.out.call hb)
    clear hb HR5 c0 c1 hb4 Ra4 Rb4
    have c0 := k0.cell
    have c1 := k1.cell
    go_wp2_with fail
    refine (H5.out w5 HR6.out).mono ?_
    rintro e w6 ⟨vm, rfl, hm, hb⟩
    have hb6 := via hb5 hb
    have k0 := k0.call hb
    have k1 := k1.call hb
    have HR7 := Lib.hid (HR6.out.call hb)
    have Ra6 := Lib.hid (Ra5.out.call hb)
    have Rb6 := Lib.hid (Rb5.out.call hb)
    clear hb HR6 c0 c1 hb5 Ra5 Rb5
    have c0 := k0.cell
    have c1 := k1.cell
    obtain ⟨pm, cm, rfl⟩ := hm.form
    have Hm := Lib.hid hm
    clear hm
    go_wp2_with fail
    refine (H6.out w6 HR7.out).mono ?_
    rintro e w7 ⟨vn, rfl, hn, hb⟩
    have hb7 := via hb6 hb
    have Ra7 := Lib.hid (Ra6.out.call hb)
    have Rb7 := Lib.hid (Rb6.out.call hb)
    have Hm7 := Lib.hid (Hm.out.call hb)
    obtain ⟨pn, cn, rfl⟩ := hn.form
    have Hn := Lib.hid hn
    clear hb HR7 c0 c1 hb6 Ra6 Rb6 Hm hn
    go_wp2_with fail
    refine (Same_law4 pa pb ca cb xs w7 Ra7.out Rb7.out (by omega)).mono ?_
    rintro e w8 ⟨rfl, hb⟩
    have hb8 := via hb7 hb
    have Hm8 := Lib.hid (Hm7.out.call hb)
    have Hn8 := Lib.hid (Hn.out.call hb)
    clear hb Ra7 Rb7 Hm7 Hn hb7
    clear H1 H2 H3 H4 H5 H6 HW0 k0 k1 hb0
    go_wp2_with fail
    go_loopw [17] (fun x wr => ∃ j : Nat, j ≤ ms.length ∧ x = .int .i64 j ∧ Below w8.heap.size w8 wr) (fun x _ => ms.length - (intOf x).toNat)
    case atStart => exact ⟨0, Nat.zero_le _, rfl, Below.refl _ _⟩
    case round =>
      obtain ⟨j, hj, rfl, hB⟩ := hrel
      by_cases hlt : j < ms.length
      · obtain ⟨b1, c1, p1, d1, hv1, hs1, e1, r1⟩ := (Hm8.out.call hB).at hlt
        obtain ⟨b2, c2, p2, d2, hv2, hs2, e2, r2⟩ := (Hn8.out.call hB).at hlt
        obtain ⟨rfl, _, rfl⟩ := Value.slice.inj hv1
        obtain ⟨rfl, _, rfl⟩ := Value.slice.inj hv2
        have hmem : ms[j]! ∈ ms := (tail_mem hlt).2
        have hsz := Hmz.out _ hmem
        have R1 := Lib.hid r1
        have R2 := Lib.hid r2
        have j0 : (0 : Int) ≤ (j : Int) := Int.natCast_nonneg _
        have j1 : (j : Int) < (ms.length : Int) := by omega
        clear hv1 hv2 r1 r2 hmem
        generalize ms[j]! = y at *
        go_wp2_with fail
        go_region_held3 (fun w' => w'.cell? ⟨b1, j, none⟩ = some (.slice p1 y.length d1) ∧ w'.cell? ⟨b2, j, none⟩ = some (.slice p2 y.length d2)) (go_keep)
          (first | (go_at_call 13; refine (Same_law4 p1 p2 d1 d2 y wr.drew R1.out R2.out (by omega)).mono ?_; rintro e w9 ⟨rfl, hb9⟩; have hbw := kbelow hb9; have hcc := kcell' hbw))
        have hB9 : Below w8.heap.size w8 w9 := hB.trans (hbw.mono hB.size)
        clear hcc hb9 e1 e2
        go_wp2
        go_roundw
        case rel => exact ⟨j + 1, by omega, by go_num, hB9⟩
        case measure => simp [intOf]; omega
      · obtain rfl : j = ms.length := by omega
        have hb9 := via hb8 hB
        go_wp2_with fail
        refine (Sane_law4 wr).mono ?_
        rintro e w9 ⟨rfl, hb⟩
        have hb10 := via hb9 hb
        clear hb
        go_wp2
        go_ret
        exact ⟨rfl, hb10⟩
  · go_wp2_with fail
    refine (Sane_law4 w1).mono ?_
    rintro e w2 ⟨rfl, hb⟩
    have hb2 := via hb1 hb
    clear hb
    go_wp2
    go_ret
    exact ⟨rfl, hb2⟩
end Go.Proofs.Ytaimeemdmklmbaa
