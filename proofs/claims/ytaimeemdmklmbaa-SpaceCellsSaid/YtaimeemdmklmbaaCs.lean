/- Cells in ascending order by the reference of layer 4. -/
import Derived.Test.YtaimeemdmklmbaaRf4b
import Derived.Test.YtaimeemdmklmbaaOw2
import Derived.Test.YtaimeemdmklmbaaEq
import Derived.Test.YtaimeemdmklmbaaMv
import Derived.Deep.DrawnRows
import Derived.Deep.RegionHeld3
import Derived.Deep.QuietTactic
import Derived.BigQuiet
set_option linter.all false
namespace Go.Proofs.Ytaimeemdmklmbaa
open Go.RowKit Go.Shelf
attribute [local go_sem ↓] Go.wp_at_zero Go.wp_at_succ
attribute [local go_sem] guardCell eqCell

theorem Below.set2 {B : Nat} {a w : World} (h : Below B a w) {g i k : Nat} {u v : Value} (hg : B ≤ g) : Below B a ((w.setCell ⟨g, i, none⟩ u).setCell ⟨g, k, none⟩ v) := (h.setCell hg _).setCell hg _
theorem put2_at (c : P2) : ∀ (ys : List P2) (a : Nat), a ≤ ys.length → (∀ i, i < a → lt2 ys[i]! c = true) → (a < ys.length → lt2 ys[a]! c = false ∧ ys[a]! ≠ c) → put2 c ys = ys.take a ++ c :: ys.drop a
  | [], a, h, _, _ => by simp at h; subst h; rfl
  | y :: r, 0, h, _, h2 => by
    obtain ⟨h3, h4⟩ := h2 (by simp)
    simp only [List.getElem!_cons_zero] at h3 h4
    unfold put2
    rw [if_neg (by rw [h3]; simp), if_neg h4]
    rfl
  | y :: r, a + 1, h, h1, h2 => by
    have h3 := h1 0 (by omega)
    simp only [List.getElem!_cons_zero] at h3
    unfold put2
    rw [if_pos h3, put2_at c r a (by simpa using h) (fun i hi => by simpa using h1 (i + 1) (by omega)) (fun hl => by simpa using h2 (by simp; omega))]
    rfl
theorem put2_there (c : P2) : ∀ (ys : List P2) (a : Nat), a < ys.length → (∀ i, i < a → lt2 ys[i]! c = true) → ys[a]! = c → put2 c ys = ys
  | [], a, h, _, _ => by simp at h
  | y :: r, 0, h, _, h2 => by
    simp only [List.getElem!_cons_zero] at h2
    subst h2
    unfold put2
    rw [if_neg (by rw [lt2_irrefl]; simp), if_pos rfl]
  | y :: r, a + 1, h, h1, h2 => by
    have h3 := h1 0 (by omega)
    simp only [List.getElem!_cons_zero] at h3
    unfold put2
    rw [if_pos h3, put2_there c r a (by simpa using h) (fun i hi => by simpa using h1 (i + 1) (by omega)) (by simpa using h2)]
theorem put2_len (c : P2) : ∀ ys : List P2, (put2 c ys).length ≤ ys.length + 1
  | [] => by simp [put2]
  | y :: r => by
    have := put2_len c r
    unfold put2
    repeat' split
    all_goals simp <;> omega
theorem sorted2_len_aux : ∀ (l acc : List P2), (l.foldl (fun acc c => put2 c acc) acc).length ≤ acc.length + l.length
  | [], acc => by simp
  | c :: l, acc => by
    have h1 := sorted2_len_aux l (put2 c acc)
    have h2 := put2_len c acc
    simp only [List.foldl_cons, List.length_cons]
    omega
theorem sorted2_len (l : List P2) : (sorted2 l).length ≤ l.length := by simpa [sorted2] using sorted2_len_aux l []
theorem shift_set {ys : List P2} {k : Nat} {x : P2} (h : k < ys.length) : (ys.take (k + 1) ++ x :: ys.drop (k + 1)).set (k + 1) ys[k]! = ys.take k ++ ys[k]! :: ys.drop k := by
  have h1 : (ys.take (k + 1)).length = k + 1 := by rw [List.length_take]; omega
  rw [List.set_append_right _ _ (by omega), h1, Nat.sub_self, List.set_cons_zero, take_snoc h, (tail_mem h).1]
  simp
theorem last_set {ys : List P2} {k : Nat} {x c : P2} (h : k ≤ ys.length) : (ys.take k ++ x :: ys.drop k).set k c = ys.take k ++ c :: ys.drop k := by
  have h1 : (ys.take k).length = k := by rw [List.length_take]; omega
  rw [List.set_append_right _ _ (by omega), h1, Nat.sub_self, List.set_cons_zero]
theorem shift_get {ys : List P2} {k : Nat} {x : P2} (h : k < ys.length) : (ys.take (k + 1) ++ x :: ys.drop (k + 1))[k]! = ys[k]! := by
  have h1 : (ys.take (k + 1)).length = k + 1 := by rw [List.length_take]; omega
  rw [getElem!_pos _ k (by simp; omega), List.getElem_append_left (by omega), List.getElem_take, getElem!_pos ys k h]

set_option maxRecDepth 100000 in
set_option maxHeartbeats 8000000 in
theorem Sorted_ref4 (p : Option Addr) (cp : Nat) (xs : List P2) (w : World) (hr : Row w.heap.size w p 2 P2.enc xs) (hm : xs.length ≤ 100000) :
    Calls Try.prog 51 #[.slice p xs.length cp] w fun e w' => ∃ v, e = .returned v ∧ Own w.heap.size w' 52 2 P2.enc v (sorted2 xs) ∧ Below w.heap.size w w' := by
  obtain ⟨i1, hinf1, y10, y11, y12⟩ := info_parts infoCell
  have Hr := Lib.hid hr
  clear hr
  go_enter Try.func51, Try.ntmps51
  go_wp2_with fail
  go_loopw [3, 4] (fun v x wr => ∃ j : Nat, j ≤ xs.length ∧ x = .int .i64 j ∧ Own w.heap.size wr 52 2 P2.enc v (sorted2 (xs.take j)) ∧ Below w.heap.size w wr) (fun _ x _ => xs.length - (intOf x).toNat)
  case atStart => exact ⟨0, Nat.zero_le _, rfl, Own.nil _ _ _ _ _, Below.refl _ _⟩
  case round =>
    obtain ⟨j, hj, rfl, hown, hB⟩ := hrel
    obtain ⟨wo, hwo⟩ : ∃ wo, wo = wr := ⟨_, rfl⟩
    subst hwo
    by_cases hlt : j < xs.length
    · obtain ⟨b, off, rfl, hbs, e0, e1⟩ := (Hr.out.below hB (Nat.le_refl _)).cl hlt
      have e0w : w.cell? ⟨b, off + j * 2, none⟩ = some (.int .i64 (xs[j]!).x) := (hB.cell (p := ⟨b, off + j * 2, none⟩) hbs).symm.trans e0
      have e1w : w.cell? ⟨b, off + j * 2 + 1, none⟩ = some (.int .i64 (xs[j]!).y) := (hB.cell (p := ⟨b, off + j * 2 + 1, none⟩) hbs).symm.trans e1
      have hbo : b < wo.heap.size := Nat.lt_of_lt_of_le hbs hB.size
      have hst : sorted2 (xs.take (j + 1)) = put2 xs[j]! (sorted2 (xs.take j)) := by rw [take_snoc hlt, sorted2_snoc]
      have hyl : (sorted2 (xs.take j)).length ≤ j := Nat.le_trans (sorted2_len _) (by rw [List.length_take]; omega)
      have j0 : (0 : Int) ≤ (j : Int) := Int.natCast_nonneg _
      have j1 : (j : Int) < (xs.length : Int) := by omega
      have Hst := Lib.hid hst
      clear hst
      generalize xs[j]! = c at *
      generalize sorted2 (xs.take j) = ys at *
      obtain ⟨pv, cap, rfl⟩ := hown.form
      go_wp2_with fail
      go_loopw [5] (fun y wr => ∃ a : Nat, a ≤ ys.length ∧ y = .int .i64 a ∧ Below wo.heap.size wo wr ∧ ∀ i, i < a → lt2 ys[i]! c = true) (fun y _ => ys.length - (intOf y).toNat)
      case atStart => exact ⟨0, Nat.zero_le _, rfl, Below.refl _ _, fun i hi => by omega⟩
      case round =>
        obtain ⟨a, ha, rfl, hBi, hI⟩ := hrel
        have HI := Lib.hid hI
        have ho := hown.call hBi
        have c0 : wr.cell? ⟨b, off + j * 2, none⟩ = some (.int .i64 c.x) := (hBi.cell (p := ⟨b, off + j * 2, none⟩) hbo).trans e0
        have c1 : wr.cell? ⟨b, off + j * 2 + 1, none⟩ = some (.int .i64 c.y) := (hBi.cell (p := ⟨b, off + j * 2 + 1, none⟩) hbo).trans e1
        have hbr : b < wr.heap.size := Nat.lt_of_lt_of_le hbo hBi.size
        have hsz : w.heap.size ≤ wr.heap.size := Nat.le_trans hB.size hBi.size
        clear hI
        by_cases hla : a < ys.length
        · obtain ⟨g, cap', hgv, hbg, hgl⟩ := ho.head (by rintro rfl; simp at hla)
          simp only [Value.slice.injEq] at hgv
          obtain ⟨rfl, _, rfl⟩ := hgv
          obtain ⟨d0, d1, _, _⟩ := ho.cl hla
          have a0 : (0 : Int) ≤ (a : Int) := Int.natCast_nonneg _
          have a1 : (a : Int) < (ys.length : Int) := by omega
          have hless := fun W => Less_ref4 (ys[a]!) c W
          have Hless := Lib.hid hless
          have Ho := Lib.hid ho
          obtain ⟨y, hy⟩ : ∃ y, y = ys[a]! := ⟨_, rfl⟩
          rw [← hy] at d0 d1 Hless
          have Hy := Lib.hid hy
          clear hless ho hy
          cases hb : lt2 y c
          · have Hb := Lib.hid hb
            clear hb
            go_wp2_with fail
            go_region_held3 (fun w' => w'.cell? ⟨g, a * 2, none⟩ = some (.int .i64 y.x) ∧ w'.cell? ⟨g, a * 2 + 1, none⟩ = some (.int .i64 y.y) ∧ w'.cell? ⟨b, off + j * 2, none⟩ = some (.int .i64 c.x) ∧ w'.cell? ⟨b, off + j * 2 + 1, none⟩ = some (.int .i64 c.y)) (go_keep)
              (first | (go_at_call 72; refine (Hless.out _).mono ?_; rintro e w3 ⟨rfl, hb3⟩; rw [Hb.out]; have hbw := kbelow hb3; have hcc := kcell' hbw))
            go_wp2_with fail
            have hbr3 : b < w3.heap.size := Nat.lt_of_lt_of_le hbr hbw.size
            have hgl3 : g < w3.heap.size := Nat.lt_of_lt_of_le hgl hbw.size
            have c0 := (hcc b (off + j * 2) hbr).trans c0
            have c1 := (hcc b (off + j * 2 + 1) hbr).trans c1
            have d0 := (hcc g (a * 2) hgl).trans d0
            have d1 := (hcc g (a * 2 + 1) hgl).trans d1
            have Ho3 := Lib.hid (Ho.out.call hbw)
            have hBi3 : Below wo.heap.size wo w3 := hBi.trans (hbw.mono hBi.size)
            clear hcc hb3
            by_cases hyc : y = c
            · subst hyc
              go_quiet (fail)
              go_wp2
              go_roundw
              case rel => exact ⟨j + 1, by omega, by go_num, by rw [Hst.out, put2_there y ys a hla HI.out Hy.out.symm]; exact Ho3.out.drewN _, below_drewN (hB.trans (hBi3.mono hB.size)) _⟩
              case measure => simp [intOf]; omega
            · have hne := beq_ne2 hyc
              go_quiet (fail)
              have ho3 := Ho3.out.drewN nq
              have hB3 := below_drewN hBi3 nq
              have hp2 := fun (_ : Unit) => put2_at c ys a ha HI.out (fun _ => ⟨by rw [← Hy.out]; exact Hb.out, by rw [← Hy.out]; exact hyc⟩)
              have Hp2 := Lib.hid (hp2 ())
              obtain ⟨W3, hW3⟩ : ∃ W3, W3 = w3.drewN nq := ⟨_, rfl⟩
              rw [← hW3] at ho3 hB3
              have c0 : W3.cell? ⟨b, off + j * 2, none⟩ = some (.int .i64 c.x) := by rw [hW3]; exact c0
              have c1 : W3.cell? ⟨b, off + j * 2 + 1, none⟩ = some (.int .i64 c.y) := by rw [hW3]; exact c1
              rw [← hW3]
              clear hW3 hp2 hne d0 d1 hBi hBi3 hbw hbr3 hgl3 Hless Ho3 Ho
              have hsz3 : w.heap.size ≤ W3.heap.size := Nat.le_trans hB.size hB3.size
              have hB30 : Below w.heap.size w W3 := hB.trans (hB3.mono hB.size)
              go_wp2_with (at_builtin; go_loud (refine wpList_own rfl _ _ 32 rfl i1 _ 16 Try.underlying32 hinf1 y10 y11 y12 rfl (by decide) rfl (Own.alloc ho3 _) c rfl (by simp [P2.enc, Value.oneCell']) W3.heap.size rfl new_cells ⟨by omega, by unfold maxLen; omega⟩ (by simp; omega) ?_; intro v4 w4 ho4 hb4; obtain ⟨g4, cap4, hgv4, hbg4, hgl4⟩ := ho4.head (by simp); obtain ⟨L, hl4⟩ : ∃ L, (ys ++ [c]).length = L := ⟨_, rfl⟩; rw [hl4] at hgv4; have hL : L = ys.length + 1 := (by simpa using hl4.symm); clear hl4; subst hgv4))
              have hB4 : Below w.heap.size w w4 := (hB30.alloc hsz3 _).trans hb4
              clear hb4 c0 c1 hB30 ho3
              go_loopw [6] (fun y wr => ∃ (k : Nat) (x : P2), a ≤ k ∧ k ≤ ys.length ∧ y = .int .i64 k ∧ Own w.heap.size wr 52 2 P2.enc (.slice (some ⟨g4, 0, none⟩) L cap4) (ys.take k ++ x :: ys.drop k) ∧ Below w.heap.size w wr) (fun y _ => (intOf y).toNat)
              case atStart => exact ⟨ys.length, c, by omega, Nat.le_refl _, by subst hL; go_num, by simpa using ho4, hB4⟩
              case round =>
                obtain ⟨k, x, hka, hkl, rfl, hok, hBk⟩ := hrel
                have c0 : wr.cell? ⟨b, off + j * 2, none⟩ = some (.int .i64 c.x) := (hBk.cell (p := ⟨b, off + j * 2, none⟩) hbs).trans e0w
                have c1 : wr.cell? ⟨b, off + j * 2 + 1, none⟩ = some (.int .i64 c.y) := (hBk.cell (p := ⟨b, off + j * 2 + 1, none⟩) hbs).trans e1w
                have hlen : (ys.take k ++ x :: ys.drop k).length = ys.length + 1 := by simp; omega
                obtain ⟨_, _, _, hgl5⟩ := hok.capB
                by_cases hgt : a < k
                · obtain ⟨m, rfl⟩ : ∃ m, k = m + 1 := ⟨k - 1, by omega⟩
                  obtain ⟨d0, d1, _, _⟩ := hok.cl (i := m) (by omega)
                  obtain ⟨d2, d3, f0, f1⟩ := hok.cl (i := m + 1) (by omega)
                  rw [shift_get (by omega)] at d0 d1
                  have hset := hok.set (m + 1) (ys[m]!)
                  rw [shift_set (by omega)] at hset
                  have Hset := Lib.hid hset
                  generalize ys[m]! = y at *
                  clear hset c0 c1
                  go_wp2_with fail
                  go_roundw
                  case rel => exact ⟨m, y, by omega, by omega, by go_num, Hset.out, Below.set2 hBk hbg4⟩
                  case measure => simp [intOf] <;> omega
                · obtain rfl : a = k := by omega
                  obtain ⟨d2, d3, f0, f1⟩ := hok.cl (i := a) (by omega)
                  have hset := hok.set a c
                  rw [last_set (by omega)] at hset
                  have Hset := Lib.hid hset
                  clear hset
                  go_wp2_with fail
                  go_roundw
                  case rel => exact ⟨j + 1, by omega, by go_num, by rw [Hst.out, Hp2.out, ← hL]; exact Hset.out, Below.set2 hBk hbg4⟩
                  case measure => simp [intOf]; omega
          · have Hb := Lib.hid hb
            clear hb
            go_wp2_with fail
            go_region_held3 (fun w' => w'.cell? ⟨g, a * 2, none⟩ = some (.int .i64 y.x) ∧ w'.cell? ⟨g, a * 2 + 1, none⟩ = some (.int .i64 y.y) ∧ w'.cell? ⟨b, off + j * 2, none⟩ = some (.int .i64 c.x) ∧ w'.cell? ⟨b, off + j * 2 + 1, none⟩ = some (.int .i64 c.y)) (go_keep)
              (first | (go_at_call 72; refine (Hless.out _).mono ?_; rintro e w3 ⟨rfl, hb3⟩; rw [Hb.out]; have hbw := kbelow hb3; have hcc := kcell' hbw))
            have hBi3 : Below wo.heap.size wo w3 := hBi.trans (hbw.mono hBi.size)
            clear hcc hb3 c0 c1 d0 d1
            go_wp2
            go_roundw
            case rel => exact ⟨a + 1, by omega, by go_num, hBi3, fun i hi => by
              by_cases h : i < a
              · exact HI.out i h
              · obtain rfl : i = a := by omega
                rw [← Hy.out]; exact Hb.out⟩
            case measure => simp [intOf]; omega
        · obtain rfl : a = ys.length := by omega
          have hp2 := put2_at c ys ys.length (Nat.le_refl _) HI.out (fun h => by omega)
          have Hp2 := Lib.hid hp2
          have Ho := Lib.hid ho
          clear hp2 ho
          go_wp2_with fail
          go_quiet (fail)
          obtain ⟨W2, hW2⟩ : ∃ W2, W2 = wr.drewN nq := ⟨_, rfl⟩
          have ho2 : Own w.heap.size W2 52 2 P2.enc (.slice pv ys.length cap) ys := by rw [hW2]; exact Ho.out.drewN _
          have Ho2 := Lib.hid ho2
          have hB2 : Below wo.heap.size wo W2 := by rw [hW2]; exact below_drewN hBi _
          have c0 : W2.cell? ⟨b, off + j * 2, none⟩ = some (.int .i64 c.x) := by rw [hW2]; exact c0
          have c1 : W2.cell? ⟨b, off + j * 2 + 1, none⟩ = some (.int .i64 c.y) := by rw [hW2]; exact c1
          rw [← hW2]
          clear hW2 hBi hbr Ho ho2
          go_wp2_with fail
          go_quiet (fail)
          obtain ⟨W3, hW3⟩ : ∃ W3, W3 = W2.drewN nq := ⟨_, rfl⟩
          have ho3 : Own w.heap.size W3 52 2 P2.enc (.slice pv ys.length cap) ys := by rw [hW3]; exact (Ho2.out).drewN _
          have hB3 : Below wo.heap.size wo W3 := by rw [hW3]; exact below_drewN hB2 _
          have c0 : W3.cell? ⟨b, off + j * 2, none⟩ = some (.int .i64 c.x) := by rw [hW3]; exact c0
          have c1 : W3.cell? ⟨b, off + j * 2 + 1, none⟩ = some (.int .i64 c.y) := by rw [hW3]; exact c1
          rw [← hW3]
          clear hW3 hB2 Ho2
          have hsz3 : w.heap.size ≤ W3.heap.size := Nat.le_trans hB.size hB3.size
          have hB30 : Below w.heap.size w W3 := hB.trans (hB3.mono hB.size)
          go_wp2_with (at_builtin; go_loud (refine wpList_own rfl _ _ 32 rfl i1 _ 16 Try.underlying32 hinf1 y10 y11 y12 rfl (by decide) rfl (Own.alloc ho3 _) c rfl (by simp [P2.enc, Value.oneCell']) W3.heap.size rfl new_cells ⟨by omega, by unfold maxLen; omega⟩ (by simp; omega) ?_; intro v4 w4 ho4 hb4; obtain ⟨g4, cap4, hgv4, hbg4, hgl4⟩ := ho4.head (by simp); obtain ⟨L, hl4⟩ : ∃ L, (ys ++ [c]).length = L := ⟨_, rfl⟩; rw [hl4] at hgv4; have hL : L = ys.length + 1 := (by simpa using hl4.symm); clear hl4; subst hgv4))
          have hB4 : Below w.heap.size w w4 := (hB30.alloc hsz3 _).trans hb4
          clear hb4 c0 c1 hB30 ho3
          go_loopw [6] (fun y wr => ∃ (k : Nat) (x : P2), ys.length ≤ k ∧ k ≤ ys.length ∧ y = .int .i64 k ∧ Own w.heap.size wr 52 2 P2.enc (.slice (some ⟨g4, 0, none⟩) L cap4) (ys.take k ++ x :: ys.drop k) ∧ Below w.heap.size w wr) (fun y _ => (intOf y).toNat)
          case atStart => exact ⟨ys.length, c, by omega, Nat.le_refl _, by subst hL; go_num, by simpa using ho4, hB4⟩
          case round =>
            obtain ⟨k, x, hka, hkl, rfl, hok, hBk⟩ := hrel
            have c0 : wr.cell? ⟨b, off + j * 2, none⟩ = some (.int .i64 c.x) := (hBk.cell (p := ⟨b, off + j * 2, none⟩) hbs).trans e0w
            have c1 : wr.cell? ⟨b, off + j * 2 + 1, none⟩ = some (.int .i64 c.y) := (hBk.cell (p := ⟨b, off + j * 2 + 1, none⟩) hbs).trans e1w
            have hlen : (ys.take k ++ x :: ys.drop k).length = ys.length + 1 := by simp; omega
            obtain ⟨_, _, _, hgl5⟩ := hok.capB
            by_cases hgt : ys.length < k
            · exact absurd hgt (by omega)
            · obtain rfl : ys.length = k := by omega
              obtain ⟨d2, d3, f0, f1⟩ := hok.cl (i := ys.length) (by omega)
              have hset := hok.set ys.length c
              rw [last_set (by omega)] at hset
              have Hset := Lib.hid hset
              clear hset
              go_wp2_with fail
              go_roundw
              case rel => exact ⟨j + 1, by omega, by go_num, by rw [Hst.out, Hp2.out, ← hL]; exact Hset.out, Below.set2 hBk hbg4⟩
              case measure => simp [intOf]; omega
    · obtain rfl : j = xs.length := by omega
      rw [List.take_length] at hown
      have hfin : ∃ v, (Ending.returned u3) = .returned v ∧ Own w.heap.size wo 52 2 P2.enc v (sorted2 xs) ∧ Below w.heap.size w wo := ⟨_, rfl, hown, hB⟩
      have Hfin := Lib.hid hfin
      clear hfin hown
      go_wp2
      go_ret
      exact Hfin.out
end Go.Proofs.Ytaimeemdmklmbaa
