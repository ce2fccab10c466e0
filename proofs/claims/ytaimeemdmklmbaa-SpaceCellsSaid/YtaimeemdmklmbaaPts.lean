/- The points of a domain: what the reference's All returns. -/
import Derived.Test.YtaimeemdmklmbaaDom
import Derived.Test.YtaimeemdmklmbaaOwn
set_option linter.all false
namespace Go.Proofs.Ytaimeemdmklmbaa
open Go.RowKit Go.Shelf
attribute [local go_sem ↓] Go.wp_at_zero Go.wp_at_succ

/-- The whole numbers from -f to f. -/
def span (f : Nat) : List Int := (List.range (2 * f + 1)).map fun (i : Nat) => (i : Int) - (f : Int)
theorem span_take_succ (f i : Nat) (h : i < 2 * f + 1) : (span f).take (i + 1) = (span f).take i ++ [(i : Int) - f] := by
  have hl : (span f).length = 2 * f + 1 := by simp [span]
  rw [List.take_succ_eq_append_getElem (by omega)]
  simp [span]
theorem span_take_all (f : Nat) : (span f).take (2 * f + 1) = span f := List.take_of_length_le (by simp [span])

/-- The points of a line along the last coordinate, of a plane, and all, that satisfy the inequalities. -/
def lineOf (n : Int) (l : List Iq) (x y : Int) (zs : List Int) : List P3 := (zs.map fun z => (⟨x, y, z⟩ : P3)).filter fun p => l.all (satB p)
def planeOf (n : Int) (l : List Iq) (x : Int) (ys : List Int) : List P3 := ys.flatMap fun y => lineOf n l x y (span (farN n 2))
def boxOf (n : Int) (l : List Iq) (xs : List Int) : List P3 := xs.flatMap fun x => planeOf n l x (span (farN n 1))
/-- All points of a domain, in ascending order. -/
def ptsOf (n : Int) (l : List Iq) : List P3 := boxOf n l (span (farN n 0))
theorem lineOf_snoc (n : Int) (l : List Iq) (x y z : Int) (zs : List Int) : lineOf n l x y (zs ++ [z]) = lineOf n l x y zs ++ if l.all (satB ⟨x, y, z⟩) then [⟨x, y, z⟩] else [] := by
  simp only [lineOf, List.map_append, List.filter_append, List.map_cons, List.map_nil]
  congr 1
  by_cases h : l.all (satB ⟨x, y, z⟩) = true
  · rw [if_pos h]; simp only [List.filter_cons, List.filter_nil, h, if_true]
  · rw [if_neg h]; simp only [List.filter_cons, List.filter_nil]; rw [if_neg h]
theorem planeOf_snoc (n : Int) (l : List Iq) (x y : Int) (ys : List Int) : planeOf n l x (ys ++ [y]) = planeOf n l x ys ++ lineOf n l x y (span (farN n 2)) := by simp [planeOf]
theorem boxOf_snoc (n : Int) (l : List Iq) (x : Int) (xs : List Int) : boxOf n l (xs ++ [x]) = boxOf n l xs ++ planeOf n l x (span (farN n 1)) := by simp [boxOf]

/-- The call gives a new slice that owns xs. -/
def GivesOwn {α : Type} (E k : Nat) (enc : α → List Value) (xs : List α) (w : World) (e : Ending) (w' : World) : Prop := ∃ v, e = .returned v ∧ Own w.heap.size w' E k enc v xs ∧ Below w.heap.size w w'

theorem infoPt : (Try.prog.info? 29).map (fun i => (i.zero, i.size, i.bytes)) = some (some (.agg #[.int .i64 0, .int .i64 0, .int .i64 0]), 3, 24) := by kernel_rfl

theorem flatB_in {n x y z : Int} (hx : -(farN n 0 : Int) ≤ x ∧ x ≤ farN n 0) (hy : -(farN n 1 : Int) ≤ y ∧ y ≤ farN n 1) (hz : -(farN n 2 : Int) ≤ z ∧ z ≤ farN n 2) : flatB x y z n 20 = true := by
  rw [flatB_iff]
  unfold farN at hx hy hz
  refine ⟨?_, ?_, ?_, ?_, ?_, ?_⟩ <;> (repeat' split at hx) <;> (repeat' split at hy) <;> (repeat' split at hz) <;> omega

set_option maxHeartbeats 4000000 in
set_option maxRecDepth 100000 in
theorem All_ref (n : Int) (p : Option Addr) (c : Nat) (l : List Iq) (w : World) (hl : l.length ≤ 6) (hq : l.all (iqB n) = true) (hr : Row w.heap.size w p 4 Iq.enc l) :
    Calls Try.prog 20 #[.agg #[.int .i64 n, .slice p l.length c]] w (GivesOwn 29 3 P3.enc (ptsOf n l) w) := by
  obtain ⟨i0, hinf, zz0, zz1, zz2⟩ := info_parts infoPt
  have Hr := Lib.hid hr
  have Hq := Lib.hid hq
  clear hr hq
  have f0 := farN_le n 0
  have f1 := farN_le n 1
  have f2 := farN_le n 2
  obtain ⟨W0, hW0⟩ : ∃ W0, W0 = w.alloc (.cells #[.int .i64 n, .slice p l.length c] 24) := ⟨_, rfl⟩
  have hsz0 : W0.heap.size = w.heap.size + 1 := by rw [hW0]; simp
  have hW00 : Below w.heap.size w W0 := by rw [hW0]; go_grown
  have hd0 : W0.cell? ⟨w.heap.size, 0, none⟩ = some (.int .i64 n) := by rw [hW0]; simp [go_sem]
  have hd1 : W0.cell? ⟨w.heap.size, 1, none⟩ = some (.slice p l.length c) := by rw [hW0]; simp [go_sem]
  go_enter Try.func20, Try.ntmps20
  have HW0 := Lib.hid hW0
  clear hW0
  go_wp2_with (go_at_call 42; refine (far_ref n 0 _ _).mono ?_; rintro e w1 ⟨rfl, hb⟩; have hB1 : Below (w.heap.size + 1) W0 w1 := (by rw [HW0.out]; simpa using hb); clear hb)
  go_loopw [4, 3] (fun x v wr => ∃ i : Nat, i ≤ 2 * farN n 0 + 1 ∧ x = .int .i64 ((i : Int) - (farN n 0 : Int)) ∧ Own (w.heap.size + 1) wr 29 3 P3.enc v (boxOf n l ((span (farN n 0)).take i)) ∧ (boxOf n l ((span (farN n 0)).take i)).length ≤ i * 1681 ∧ Below (w.heap.size + 1) W0 wr)
    (fun x _ _ => ((farN n 0 : Int) + 1 - intOf x).toNat)
  case atStart => exact ⟨0, by omega, by simp, Own.nil _ _ _ _ _, by simp [boxOf], hB1⟩
  case round =>
    obtain ⟨i, hi1, rfl, hown, hlen, hB⟩ := hrel
    clear hB1
    have hn : wr.cell? ⟨w.heap.size, 0, none⟩ = some (.int .i64 n) := (hB.cell (p := ⟨w.heap.size, 0, none⟩) (by simp)).trans hd0
    have hs : wr.cell? ⟨w.heap.size, 1, none⟩ = some (.slice p l.length c) := (hB.cell (p := ⟨w.heap.size, 1, none⟩) (by simp)).trans hd1
    have hsz : w.heap.size < wr.heap.size := by have := hB.size; omega
    by_cases hlt : i < 2 * farN n 0 + 1
    · have hx1 : -(farN n 0 : Int) ≤ (i : Int) - farN n 0 ∧ (i : Int) - farN n 0 ≤ farN n 0 := by omega
      have hst := span_take_succ (farN n 0) i hlt
      have Hst := Lib.hid hst
      clear hst
      generalize hA : boxOf n l ((span (farN n 0)).take i) = A at *
      have HA := Lib.hid hA
      clear hA
      go_wp2_with fail
      refine (far_ref n 0 _ _).mono ?_
      rintro e w2 ⟨rfl, hb⟩
      have hcc := (bcell hb).1
      have hB2 : Below (w.heap.size + 1) W0 w2 := hB.trans (hb.mono (by omega))
      have hown2 := hown.below hb (Nat.le_refl _)
      have hsz2 : w.heap.size < w2.heap.size := by have := hB2.size; omega
      clear hb
      go_wp2_with fail
      refine (far_ref n 1 _ _).mono ?_
      rintro e w3 ⟨rfl, hb⟩
      have hB3 : Below (w.heap.size + 1) W0 w3 := hB2.trans (hb.mono (by omega))
      have hown3 := hown2.below hb (Nat.le_refl _)
      clear hb hcc hown hown2 hn hs hB hB2 hsz hsz2
      go_wp2_with fail
      go_loopw [5, 3] (fun y v wr => ∃ j : Nat, j ≤ 2 * farN n 1 + 1 ∧ y = .int .i64 ((j : Int) - (farN n 1 : Int)) ∧ Own (w.heap.size + 1) wr 29 3 P3.enc v (A ++ planeOf n l ((i : Int) - farN n 0) ((span (farN n 1)).take j)) ∧ (A ++ planeOf n l ((i : Int) - farN n 0) ((span (farN n 1)).take j)).length ≤ i * 1681 + j * 41 ∧ Below (w.heap.size + 1) W0 wr)
        (fun y _ _ => ((farN n 1 : Int) + 1 - intOf y).toNat)
      case atStart => exact ⟨0, by omega, by simp, by simpa [planeOf] using hown3, by simpa [planeOf] using hlen, hB3⟩
      case round =>
        obtain ⟨j, hj1, rfl, hown, hlen, hB⟩ := hrel
        have hn : wr.cell? ⟨w.heap.size, 0, none⟩ = some (.int .i64 n) := (hB.cell (p := ⟨w.heap.size, 0, none⟩) (by simp)).trans hd0
        have hs : wr.cell? ⟨w.heap.size, 1, none⟩ = some (.slice p l.length c) := (hB.cell (p := ⟨w.heap.size, 1, none⟩) (by simp)).trans hd1
        have hsz : w.heap.size < wr.heap.size := by have := hB.size; omega
        clear hB3 hown3
        by_cases hlt2 : j < 2 * farN n 1 + 1
        · have hy1 : -(farN n 1 : Int) ≤ (j : Int) - farN n 1 ∧ (j : Int) - farN n 1 ≤ farN n 1 := by omega
          have hst := span_take_succ (farN n 1) j hlt2
          have Hst2 := Lib.hid hst
          clear hst
          generalize hA2 : A ++ planeOf n l ((i : Int) - farN n 0) ((span (farN n 1)).take j) = A2 at *
          have HA2 := Lib.hid hA2
          clear hA2
          go_wp2_with fail
          refine (far_ref n 1 _ _).mono ?_
          rintro e w2 ⟨rfl, hb⟩
          have hcc := (bcell hb).1
          have hB2 : Below (w.heap.size + 1) W0 w2 := hB.trans (hb.mono (by omega))
          have hown2 := hown.below hb (Nat.le_refl _)
          have hsz2 : w.heap.size < w2.heap.size := by have := hB2.size; omega
          clear hb
          go_wp2_with fail
          refine (far_ref n 2 _ _).mono ?_
          rintro e w3 ⟨rfl, hb⟩
          have hB3 : Below (w.heap.size + 1) W0 w3 := hB2.trans (hb.mono (by omega))
          have hown3 := hown2.below hb (Nat.le_refl _)
          clear hb hcc hown hown2 hn hs hB hB2 hsz hsz2
          go_wp2_with fail
          go_loopw [6, 3] (fun z v wr => ∃ k : Nat, k ≤ 2 * farN n 2 + 1 ∧ z = .int .i64 ((k : Int) - (farN n 2 : Int)) ∧ Own (w.heap.size + 1) wr 29 3 P3.enc v (A2 ++ lineOf n l ((i : Int) - farN n 0) ((j : Int) - farN n 1) ((span (farN n 2)).take k)) ∧ (A2 ++ lineOf n l ((i : Int) - farN n 0) ((j : Int) - farN n 1) ((span (farN n 2)).take k)).length ≤ i * 1681 + j * 41 + k ∧ Below (w.heap.size + 1) W0 wr)
            (fun z _ _ => ((farN n 2 : Int) + 1 - intOf z).toNat)
          case atStart => exact ⟨0, by omega, by simp, by simpa [lineOf] using hown3, by simpa [lineOf] using hlen, hB3⟩
          case round =>
            obtain ⟨k, hk1, rfl, hown, hlen, hB⟩ := hrel
            have hn : wr.cell? ⟨w.heap.size, 0, none⟩ = some (.int .i64 n) := (hB.cell (p := ⟨w.heap.size, 0, none⟩) (by simp)).trans hd0
            have hs : wr.cell? ⟨w.heap.size, 1, none⟩ = some (.slice p l.length c) := (hB.cell (p := ⟨w.heap.size, 1, none⟩) (by simp)).trans hd1
            have hsz : w.heap.size < wr.heap.size := by have := hB.size; omega
            clear hB3 hown3
            by_cases hlt3 : k < 2 * farN n 2 + 1
            · have hz1 : -(farN n 2 : Int) ≤ (k : Int) - farN n 2 ∧ (k : Int) - farN n 2 ≤ farN n 2 := by omega
              go_wp2_with fail
              refine (far_ref n 2 _ _).mono ?_
              rintro e w2 ⟨rfl, hb⟩
              have hcc := (bcell hb).1
              have hB2 : Below (w.heap.size + 1) W0 w2 := hB.trans (hb.mono (by omega))
              have hown2 := hown.below hb (Nat.le_refl _)
              have hsz2 : w.heap.size < w2.heap.size := by have := hB2.size; omega
              clear hb
              go_wp2_with fail
              have hk2 : Below w2.heap.size w2 (w2.alloc (.cells #[.int .i64 ((i : Int) - (farN n 0 : Int)), .int .i64 ((j : Int) - (farN n 1 : Int)), .int .i64 ((k : Int) - (farN n 2 : Int))] 29)) := by go_grown
              have hrow := ((Hr.out.below hW00 (Nat.le_refl _)).below hB2 (Nat.le_succ _)).below hk2 (by omega)
              have Hp : ∀ W, Below (w2.heap.size + 1) (w2.alloc (.cells #[.int .i64 ((i : Int) - (farN n 0 : Int)), .int .i64 ((j : Int) - (farN n 1 : Int)), .int .i64 ((k : Int) - (farN n 2 : Int))] 29)) W → W.cell? ⟨w2.heap.size, 0, none⟩ = some (.int .i64 ((i : Int) - (farN n 0 : Int))) ∧ W.cell? ⟨w2.heap.size, 1, none⟩ = some (.int .i64 ((j : Int) - (farN n 1 : Int))) ∧ W.cell? ⟨w2.heap.size, 2, none⟩ = some (.int .i64 ((k : Int) - (farN n 2 : Int))) := fun W hW =>
                ⟨(hW.cell (p := ⟨w2.heap.size, 0, none⟩) (by simp)).trans (by simp [go_sem]), (hW.cell (p := ⟨w2.heap.size, 1, none⟩) (by simp)).trans (by simp [go_sem]), (hW.cell (p := ⟨w2.heap.size, 2, none⟩) (by simp)).trans (by simp [go_sem])⟩
              have hfl := flatB_in hx1 hy1 hz1
              have hcall := has_ref p c l ((i : Int) - farN n 0) ((j : Int) - farN n 1) ((k : Int) - farN n 2) n _ hl Hq.out (hrow.mono (by simp; omega))
              rw [hfl, Bool.true_and] at hcall
              have hst := span_take_succ (farN n 2) k hlt3
              have Hst3 := Lib.hid hst
              clear hst hfl hrow
              cases hsat : l.all (satB ⟨(i : Int) - farN n 0, (j : Int) - farN n 1, (k : Int) - farN n 2⟩)
              · refine hcall.mono ?_
                rintro e w3 ⟨rfl, hb⟩
                rw [hsat]
                have hB3 : Below (w.heap.size + 1) W0 w3 := (hB2.trans (hk2.mono (by omega))).trans (hb.mono (by simp; omega))
                have hown3 := (hown2.alloc (.cells #[.int .i64 ((i : Int) - (farN n 0 : Int)), .int .i64 ((j : Int) - (farN n 1 : Int)), .int .i64 ((k : Int) - (farN n 2 : Int))] 29)).below hb (Nat.le_refl _)
                have hline : lineOf n l ((i : Int) - farN n 0) ((j : Int) - farN n 1) ((span (farN n 2)).take (k + 1)) = lineOf n l ((i : Int) - farN n 0) ((j : Int) - farN n 1) ((span (farN n 2)).take k) := by
                  rw [Hst3.out, lineOf_snoc, hsat]; simp
                have Hline := Lib.hid hline
                clear hb hcc hown hown2 hn hs hB hB2 hcall hline hsat Hp hk2
                go_wp2
                go_roundw
                case rel => exact ⟨k + 1, by omega, by go_num, by rw [Hline.out]; exact hown3, by rw [Hline.out]; omega, hB3⟩
                case measure => simp [intOf]; omega
              · refine hcall.mono ?_
                rintro e w3 ⟨rfl, hb⟩
                rw [hsat]
                have hB3 : Below (w.heap.size + 1) W0 w3 := (hB2.trans (hk2.mono (by omega))).trans (hb.mono (by simp; omega))
                have hown3 := (hown2.alloc (.cells #[.int .i64 ((i : Int) - (farN n 0 : Int)), .int .i64 ((j : Int) - (farN n 1 : Int)), .int .i64 ((k : Int) - (farN n 2 : Int))] 29)).below hb (Nat.le_refl _)
                obtain ⟨hp0, hp1, hp2⟩ := Hp w3 (by simpa using hb)
                have hline : lineOf n l ((i : Int) - farN n 0) ((j : Int) - farN n 1) ((span (farN n 2)).take (k + 1)) = lineOf n l ((i : Int) - farN n 0) ((j : Int) - farN n 1) ((span (farN n 2)).take k) ++ [⟨(i : Int) - farN n 0, (j : Int) - farN n 1, (k : Int) - farN n 2⟩] := by
                  rw [Hst3.out, lineOf_snoc, hsat]; rfl
                have Hline := Lib.hid hline
                have hsz3 : w2.heap.size + 1 ≤ w3.heap.size := by have := hb.size; simpa using this
                clear hb hcc hown hown2 hn hs hB hB2 hcall hline hsat Hp hk2
                generalize hL : A2 ++ lineOf n l ((i : Int) - farN n 0) ((j : Int) - farN n 1) ((span (farN n 2)).take k) = L at *
                have HL := Lib.hid hL
                clear hL
                go_wp2_with (at_builtin; go_loud (refine wpList_own rfl _ _ 49 rfl i0 _ 24 Try.underlying49 hinf zz0 zz1 zz2 rfl (by decide) rfl (hown3.alloc _) ⟨(i : Int) - (farN n 0 : Int), (j : Int) - (farN n 1 : Int), (k : Int) - (farN n 2 : Int)⟩ rfl (by simp [P3.enc, Value.oneCell']) w3.heap.size rfl new_cells ⟨by omega, by unfold maxLen; omega⟩ (by simp; omega) ?_; intro v' w4 hown' hb4))
                have hB4 : Below (w.heap.size + 1) W0 w4 := ((hB3.alloc (by omega) _)).trans hb4
                go_wp2
                go_roundw
                case rel => exact ⟨k + 1, by omega, by go_num, by rw [Hline.out, ← List.append_assoc, HL.out]; exact hown', by rw [Hline.out, ← List.append_assoc, HL.out]; simp; omega, hB4⟩
                case measure => simp [intOf]; omega
            · go_wp2_with fail
              refine (far_ref n 2 _ _).mono ?_
              rintro e w2 ⟨rfl, hb⟩
              obtain rfl : k = 2 * farN n 2 + 1 := by omega
              rw [span_take_all] at hown hlen
              have hB2 : Below (w.heap.size + 1) W0 w2 := hB.trans (hb.mono (by omega))
              have hown2 := hown.below hb (Nat.le_refl _)
              clear hb
              go_wp2
              go_roundw
              case rel => exact ⟨j + 1, by omega, by go_num, by rw [Hst2.out, planeOf_snoc, ← List.append_assoc, HA2.out]; exact hown2, by rw [Hst2.out, planeOf_snoc, ← List.append_assoc, HA2.out]; omega, hB2⟩
              case measure => simp [intOf]; omega
        · go_wp2_with fail
          refine (far_ref n 1 _ _).mono ?_
          rintro e w2 ⟨rfl, hb⟩
          obtain rfl : j = 2 * farN n 1 + 1 := by omega
          rw [span_take_all] at hown hlen
          have hB2 : Below (w.heap.size + 1) W0 w2 := hB.trans (hb.mono (by omega))
          have hown2 := hown.below hb (Nat.le_refl _)
          clear hb
          go_wp2
          go_roundw
          case rel => exact ⟨i + 1, by omega, by go_num, by rw [Hst.out, boxOf_snoc, HA.out]; exact hown2, by rw [Hst.out, boxOf_snoc, HA.out]; omega, hB2⟩
          case measure => simp [intOf]; omega
    · go_wp2_with fail
      refine (far_ref n 0 _ _).mono ?_
      rintro e w2 ⟨rfl, hb⟩
      obtain rfl : i = 2 * farN n 0 + 1 := by omega
      rw [span_take_all] at hown
      have hfin : GivesOwn 29 3 P3.enc (ptsOf n l) w (.returned u3) w2 := ⟨u3, rfl, (hown.below hb (Nat.le_refl _)).mono (by omega), hW00.trans ((hB.trans (hb.mono (by omega))).mono (by omega))⟩
      go_wp2
      go_ret
      exact hfin
end Go.Proofs.Ytaimeemdmklmbaa
