/- slices.SortFunc and slices.Compact at cells. -/
import Derived.Test.YtaimeemdmklmbaaCm
import Derived.Test.YtaimeemdmklmbaaOw2
import Derived.Test.YtaimeemdmklmbaaLay
import Derived.Test.YtaimeemdmklmbaaEq
import Derived.BigRegion
set_option linter.all false
namespace Go.Proofs.Ytaimeemdmklmbaa
open Go.RowKit Go.Shelf
attribute [local go_sem] guardCell eqCell

/-- slices.SortFunc at cells. -/
theorem sort_cells {g : Nat} (eg : ∀ args w, (callFunc g args).run Try.prog w = .ok (.enter g args) w) (hc : CmpIs Try.prog g P2.enc cmp2) {base : Nat} {v : Value} {xs : List P2} (w : World) (h : Own base w 52 2 P2.enc v xs) (hsz : xs.length ≤ 1000000) :
    Calls Try.prog 33 #[v, .func (.func g) #[] #[]] w fun e w' => e = .returned (.tuple #[]) ∧ ∃ ys : List P2, ys.Perm xs ∧ ys.Pairwise (fun x y => lt2 y x = false) ∧ Own base w' 52 2 P2.enc v ys ∧ Below base w w' := by
  refine Calls.mono (sort_own Try.sortCell 2 Try.isAgg52 Try.sizeOf52 P2.enc (fun _ => rfl) (fun x v hv => by simp [P2.enc] at hv; rcases hv with rfl | rfl <;> rfl) cmp2 swo2 g eg hc w h hsz) ?_
  rintro e w' ⟨he, ys, h1, h2, h3, h4⟩
  exact ⟨he, ys, h1, h2.imp fun h => by rwa [ltOf_cmp2] at h, h3, h4⟩

theorem cmpt_nil : cmpt [] = [] := rfl
theorem cmpt_one (a : P2) : cmpt [a] = [a] := rfl

theorem take_last {xs : List P2} {m : Nat} (h : m < xs.length) : (xs.take (m + 1)).getLast? = some xs[m]! := by rw [take_snoc h]; simp
theorem cmpt_eq {xs : List P2} {m : Nat} (h : m + 1 < xs.length) (he : xs[m + 1]! = xs[m]!) : cmpt (xs.take (m + 1 + 1)) = cmpt (xs.take (m + 1)) := by
  rw [take_snoc h, cmpt_snoc, cpush, cmpt_last, take_last (by omega), if_pos (by rw [he])]
theorem cmpt_ne {xs : List P2} {m : Nat} (h : m + 1 < xs.length) (he : xs[m + 1]! ≠ xs[m]!) : cmpt (xs.take (m + 1 + 1)) = cmpt (xs.take (m + 1)) ++ [xs[m + 1]!] := by
  rw [take_snoc h, cmpt_snoc, cpush, cmpt_last, take_last (by omega), if_neg (by intro e; exact he (Option.some.inj e).symm)]
theorem beq_ne {x y : P2} (h : x ≠ y) : (x.x == y.x && x.y == y.y) = false := by
  cases hb : (x.x == y.x && x.y == y.y)
  · rfl
  · rw [Bool.and_eq_true, beq_iff_eq, beq_iff_eq] at hb
    exact absurd (P2.ext' hb.1 hb.2) h

set_option maxRecDepth 100000 in
set_option maxHeartbeats 2000000 in
theorem Compact_cells {base : Nat} {v : Value} {xs : List P2} (w : World) (h : Own base w 52 2 P2.enc v xs) (hsz : xs.length ≤ 1000000) :
    Calls Try.prog 35 #[v] w fun e w' => ∃ v', e = .returned v' ∧ Own base w' 52 2 P2.enc v' (cmpt xs) ∧ Below base w w' := by
  by_cases h2 : xs.length < 2
  · have hx : cmpt xs = xs := by
      match xs, h2 with
      | [], _ => rfl
      | [a], _ => rfl
      | a :: b :: r, h2 => simp at h2; omega
    have Hfin := Lib.hid (show ∃ v', (Ending.returned v) = .returned v' ∧ Own base w 52 2 P2.enc v' (cmpt xs) ∧ Below base w w from ⟨v, rfl, by rw [hx]; exact h, Below.refl _ _⟩)
    obtain ⟨p, cap, rfl⟩ := h.form
    clear h hx
    go_enter Try.func35, Try.ntmps35
    go_wp2
    go_ret
    exact Hfin.out
  · obtain ⟨g, cap, rfl, hbg, hg⟩ := h.head (by rintro rfl; simp at h2)
    have hcap := h.capB
    go_enter Try.func35, Try.ntmps35
    go_wp2_with fail
    go_loopw [3] (fun s3 wr => ∃ k : Nat, 1 ≤ k ∧ k ≤ xs.length ∧ s3 = .int .i64 k ∧ Own base wr 52 2 P2.enc (.slice (some ⟨g, 0, none⟩) xs.length cap) xs ∧ Below base w wr ∧ cmpt (xs.take k) = xs.take k) (fun s3 _ => xs.length - (intOf s3).toNat)
    case atStart => exact ⟨1, Nat.le_refl _, by omega, rfl, h, Below.refl _ _, by
      match xs, h2 with
      | a :: r, _ => rfl
      | [], h2 => simp at h2⟩
    case round =>
      obtain ⟨k, hk1, hk, rfl, hown, hB, hI⟩ := hrel
      obtain ⟨wo, hwo⟩ : ∃ wo, wo = wr := ⟨_, rfl⟩
      subst hwo
      obtain ⟨m, rfl⟩ : ∃ m, k = m + 1 := ⟨k - 1, by omega⟩
      by_cases hlt : m + 1 < xs.length
      · have j0 : (0 : Int) ≤ (m : Int) := Int.natCast_nonneg _
        have j1 : (0 : Int) ≤ (m : Int) + 1 := by omega
        have j2 : (m : Int) + 1 < (xs.length : Int) := by omega
        have j3 : (m : Int) < (xs.length : Int) := by omega
        obtain ⟨c0, c1, _, _⟩ := hown.cl (show m + 1 < xs.length from hlt)
        obtain ⟨d0, d1, _, _⟩ := hown.cl (show m < xs.length by omega)
        have Hown := Lib.hid hown
        have HI := Lib.hid hI
        have Hh := Lib.hid h
        have hc1 : m + 1 < cap := by omega
        clear hown hI h
        obtain ⟨x, hx⟩ : ∃ x, x = xs[m + 1]! := ⟨_, rfl⟩
        obtain ⟨y, hy⟩ : ∃ y, y = xs[m]! := ⟨_, rfl⟩
        rw [← hx] at c0 c1
        rw [← hy] at d0 d1
        have Hx := Lib.hid hx
        have Hy := Lib.hid hy
        clear hx hy
        by_cases hxy : x = y
        · subst hxy
          have hst : xs.take (m + 1) = cmpt (xs.take (m + 1 + 1)) := by rw [cmpt_eq hlt (Hx.out.symm.trans Hy.out), HI.out]
          have Hst := Lib.hid hst
          clear hst
          go_wp2_with fail
          go_region
          clear c0 c1 d0 d1
          go_wp2_with fail
          go_loopw [3, 5] (fun s3 s5 wr => ∃ (kk k2 : Nat) (ys : List P2), s3 = .int .i64 kk ∧ s5 = .int .i64 k2 ∧ 1 ≤ k2 ∧ m + 1 + k2 ≤ xs.length ∧ kk < m + 1 + k2 ∧ ys.length = xs.length ∧ Own base wr 52 2 P2.enc (.slice (some ⟨g, 0, none⟩) xs.length cap) ys ∧ Below base w wr ∧ ys.take kk = cmpt (xs.take (m + 1 + k2)) ∧ ∀ i, m + k2 ≤ i → i < xs.length → ys[i]! = xs[i]!) (fun _ s5 _ => xs.length - (intOf s5).toNat)
          case atStart => exact ⟨m + 1, 1, xs, rfl, rfl, Nat.le_refl _, by omega, by omega, rfl, Hown.out.drew, hB.drew, Hst.out, fun _ _ _ => rfl⟩
          case round =>
            obtain ⟨kk, k2, ys, rfl, rfl, h1, h2, h3, h4, ho, hBi, hT, hR⟩ := hrel
            obtain ⟨p, rfl⟩ : ∃ p, k2 = p + 1 := ⟨k2 - 1, by omega⟩
            have HT := Lib.hid hT
            have HR := Lib.hid hR
            have H4 := Lib.hid h4
            clear hT hR
            by_cases hl2 : m + 1 + (p + 1) < xs.length
            · obtain ⟨c0, c1, _, _⟩ := ho.cl (show m + 1 + (p + 1) < ys.length by omega)
              obtain ⟨d0, d1, _, _⟩ := ho.cl (show m + 1 + p < ys.length by omega)
              obtain ⟨e0, e1, f0, f1⟩ := ho.cl (show kk < ys.length by omega)
              rw [HR.out (m + 1 + (p + 1)) (by omega) hl2, show (m + 1 + (p + 1)) * 2 = (m + 1) * 2 + (p + 1) * 2 by omega] at c0 c1
              rw [HR.out (m + 1 + p) (by omega) (by omega), show (m + 1 + p) * 2 = (m + 1) * 2 + p * 2 by omega] at d0 d1
              have Ho := Lib.hid ho
              have q0 : (0 : Int) ≤ (p : Int) := Int.natCast_nonneg _
              have q1 : (0 : Int) ≤ (p : Int) + 1 := by omega
              have q2 : (p : Int) + 1 < ((xs.length - (m + 1) : Nat) : Int) := by omega
              have q3 : (p : Int) < ((xs.length - (m + 1) : Nat) : Int) := by omega
              clear ho h4
              obtain ⟨a, ha⟩ : ∃ a, a = xs[m + 1 + (p + 1)]! := ⟨_, rfl⟩
              obtain ⟨b, hb⟩ : ∃ b, b = xs[m + 1 + p]! := ⟨_, rfl⟩
              rw [← ha] at c0 c1
              rw [← hb] at d0 d1
              have Ha := Lib.hid ha
              have Hb := Lib.hid hb
              clear ha hb
              generalize (ys[kk]!).x = o1 at *
              generalize (ys[kk]!).y = o2 at *
              by_cases hab : a = b
              · subst hab
                go_wp2_with fail
                go_region
                clear c0 c1 d0 d1 e0 e1 f0 f1
                go_wp2_with fail
                exact ⟨⟨kk, p + 1 + 1, ys, rfl, by go_num, by omega, by omega, by omega, H4.out, Ho.out.drew, hBi.drew, by rw [HT.out]; exact (cmpt_eq (m := m + 1 + p) hl2 (Ha.out.symm.trans Hb.out)).symm, fun i hi1 hi2 => HR.out i (by omega) hi2⟩, by simp [intOf]; omega⟩
              · have hne := beq_ne hab
                go_wp2_with fail
                go_region
                go_wp2_with fail
                have hl4 := H4.out
                exact ⟨⟨kk + 1, p + 1 + 1, ys.set kk a, by go_num, by go_num, by omega, by omega, by omega, by rw [List.length_set]; exact hl4, (Ho.out.set kk a).drew, ((hBi.setCell (p := ⟨g, kk * 2, none⟩) hbg _).setCell (p := ⟨g, kk * 2 + 1, none⟩) hbg _).drew,
                  by rw [take_snoc (by rw [List.length_set]; omega), List.take_set_of_le (Nat.le_refl _), HT.out, getElem!_pos _ kk (by rw [List.length_set]; omega), List.getElem_set_self, Ha.out]; exact (cmpt_ne (m := m + 1 + p) hl2 (by rw [← Hb.out]; exact fun e => hab (Ha.out.trans e))).symm,
                  fun i hi1 hi2 => by rw [getElem!_pos _ i (by rw [List.length_set]; omega), List.getElem_set_ne (by omega), ← getElem!_pos ys i (by omega)]; exact HR.out i (by omega) hi2⟩, by simp [intOf]; omega⟩
            · have hend : m + 1 + (p + 1) = xs.length := by omega
              have hl4 := H4.out
              have hcl : ∀ ty, (Builtin.clear_ #[32] ty #[.slice (some ⟨g, kk * 2, none⟩) (xs.length - kk) (cap - kk)]).run Try.prog wr = .ok (.tuple #[]) (wr.setCells g (kk * 2) (List.replicate ((xs.length - kk) * 2) (.int .i64 0))) := fun ty =>
                run_clear_cells wr _ _ ty Try.underlying32 Try.zeroValue52 g (kk * 2) (xs.length - kk) (cap - kk) (by omega)
                  (fun j hj => by
                    have hh : wr.ownsRow base 52 2 (.slice (some ⟨g, 0, none⟩) xs.length cap) ys.length (ys.flatMap P2.enc) := ho
                    rw [← hl4] at hh
                    rw [hh.cellAt _ (by omega), List.getElem?_eq_getElem (by rw [flat_len (enc := P2.enc) (k := 2) (fun _ => rfl), hl4]; omega)]
                    rfl)
                  (fun j hj => by
                    have hh : wr.ownsRow base 52 2 (.slice (some ⟨g, 0, none⟩) xs.length cap) ys.length (ys.flatMap P2.enc) := ho
                    rw [← hl4] at hh
                    exact hh.frozenAt _)
              have hfin : ∃ v', (Ending.returned (.slice (some ⟨g, 0, none⟩) kk cap)) = .returned v' ∧ Own base (wr.setCells g (kk * 2) (List.replicate ((xs.length - kk) * 2) (.int .i64 0))) 52 2 P2.enc v' (cmpt xs) ∧ Below base w (wr.setCells g (kk * 2) (List.replicate ((xs.length - kk) * 2) (.int .i64 0))) := by
                have hh : wr.ownsRow base 52 2 (.slice (some ⟨g, 0, none⟩) xs.length cap) ys.length (ys.flatMap P2.enc) := ho
                rw [hl4] at hh
                obtain ⟨h5, h6⟩ := ownsRow_tail (List.replicate ((xs.length - kk) * 2) (.int .i64 0)) (kk * 2) wr _ hh (m := kk) (by omega) (Nat.le_refl _)
                have hT := HT.out
                rw [hend, List.take_length] at hT
                rw [flat_take, hT] at h5
                have hkk : kk = (cmpt xs).length := by rw [← hT, List.length_take]; omega
                refine ⟨_, rfl, ?_, hBi.grown h6 (Nat.le_trans hbg (Nat.le_of_lt (ho.capB).2.2.2)) (fun j e => by cases e; exact hbg)⟩
                unfold Own
                rw [← hkk]
                exact h5
              have Hfin := Lib.hid hfin
              clear hfin ho h4
              go_wp2
              go_ret
              exact Hfin.out
        · have hne := beq_ne hxy
          have hst : cmpt (xs.take (m + 1 + 1)) = xs.take (m + 1 + 1) := by rw [cmpt_ne hlt (by rw [← Hx.out, ← Hy.out]; exact hxy), HI.out, ← take_snoc hlt]
          have Hst := Lib.hid hst
          clear hst
          go_wp2_with fail
          go_region
          clear c0 c1 d0 d1
          go_wp2
          go_roundw
          case rel => exact ⟨m + 1 + 1, by omega, by omega, by go_num, Hown.out.drew, hB.drew, Hst.out⟩
          case measure => simp [intOf]; omega
      · have hx : cmpt xs = xs := by
          rw [List.take_of_length_le (by omega)] at hI
          exact hI
        have Hfin := Lib.hid (show ∃ v', (Ending.returned (.slice (some ⟨g, 0, none⟩) xs.length cap)) = .returned v' ∧ Own base wo 52 2 P2.enc v' (cmpt xs) ∧ Below base w wo from ⟨_, rfl, by rw [hx]; exact hown, hB⟩)
        clear hx hI hown h
        go_wp2
        go_ret
        exact Hfin.out
end Go.Proofs.Ytaimeemdmklmbaa
