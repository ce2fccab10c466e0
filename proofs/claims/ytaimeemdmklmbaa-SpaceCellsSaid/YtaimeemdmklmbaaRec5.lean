/- Which recurrences are valid, by the reference of layer 2: the same as by rec.Valid. -/
import Derived.Test.YtaimeemdmklmbaaRec4
set_option linter.all false
namespace Go.Proofs.Ytaimeemdmklmbaa
open Go.RowKit Go.Shelf

theorem scanB_no (m n : Int) (seen : List ByteArray) (v : Vr) (r : List Vr) (h : varB m n v = false ∨ v.name ∈ seen) : scanB m n seen (v :: r) = false := by
  rw [scanB]
  rcases h with h | h
  · rw [h]; rfl
  · rw [decide_eq_true h]; simp
theorem scanB_go (m n : Int) (seen : List ByteArray) (v : Vr) (r : List Vr) (h : varB m n v = true) (h2 : v.name ∉ seen) : scanB m n seen (v :: r) = scanB m n (seen ++ [v.name]) r := by
  rw [scanB, h, decide_eq_false h2]; simp
theorem beq_bytes {a b : ByteArray} (h : a = b) : (a == b) = true := by
  subst h
  show (a.data == a.data) = true
  exact beq_self_eq_true _
theorem bne_bytes {a b : ByteArray} (h : ¬ a = b) : (a == b) = false := by
  cases hb : (a == b)
  · rfl
  · exfalso
    have h2 : (a.data == b.data) = true := hb
    have h3 := eq_of_beq h2
    cases a; cases b; simp_all
theorem eq_of_bytes {a b : ByteArray} (h : (a == b) = true) : a = b := by
  have h2 : (a.data == b.data) = true := h
  have h3 := eq_of_beq h2
  cases a; cases b; simp_all
theorem names_snoc (vs : List Vr) (i : Nat) (h : i < vs.length) : (vs.take i).map Vr.name ++ [(vs[i]!).name] = (vs.take (i + 1)).map Vr.name := by
  rw [List.take_succ_eq_append_getElem h, List.map_append, getElem!_pos vs i h]; rfl

set_option maxRecDepth 100000 in
set_option maxHeartbeats 8000000 in
theorem Valid_ref2 (n : Int) (p : Option Addr) (c : Nat) (l : List Iq) (pv : Option Addr) (cv : Nat) (vs : List Vr) (w : World) (hR : RecOf w.heap.size w p l pv vs) :
    Calls Try.prog 49 #[.agg #[.int .i64 n, .slice p l.length c, .slice pv vs.length cv]] w fun e w' => e = .returned (.bool (recB n l vs)) ∧ Below w.heap.size w w' := by
  obtain ⟨W0, hW0⟩ : ∃ W0, W0 = w.alloc (.cells #[.int .i64 n, .slice p l.length c, .slice pv vs.length cv] 27) := ⟨_, rfl⟩
  have hb0 : Below w.heap.size w W0 := by rw [hW0]; go_grown
  have hsz : W0.heap.size = w.heap.size + 1 := by rw [hW0]; simp
  have c0 : W0.cell? ⟨w.heap.size, 0, none⟩ = some (.int .i64 n) := by rw [hW0]; simp [go_sem]
  have c1 : W0.cell? ⟨w.heap.size, 1, none⟩ = some (.slice p l.length c) := by rw [hW0]; simp [go_sem]
  have c2 : W0.cell? ⟨w.heap.size, 2, none⟩ = some (.slice pv vs.length cv) := by rw [hW0]; simp [go_sem]
  have hin := (hR.ineqs.below hb0 (Nat.le_refl _)).mono hb0.size
  have hfew := hR.few
  have HW0 := Lib.hid hW0
  have HR := Lib.hid hR
  have Hin := Lib.hid hin
  have hlt0 : w.heap.size < W0.heap.size := by omega
  clear hR hW0 hin
  cases hd : domB n l
  · have hr : recB n l vs = false := by unfold recB; rw [hd]; rfl
    have Hr := Lib.hid hr
    have hv := Valid_ref1 n p c l W0 hfew.1 Hin.out
    rw [hd] at hv
    clear hr hd
    go_enter Try.func49, Try.ntmps49
    go_wp2_with fail
    rw [← HW0.out]
    go_wp2_with (go_at_call 19; refine hv.mono ?_; rintro e w1 ⟨rfl, hb⟩)
    go_ret
    exact ⟨ret_bool Hr.out.symm, via hb0 hb⟩
  · have hv := Valid_ref1 n p c l W0 hfew.1 Hin.out
    rw [hd] at hv
    have Hd := Lib.hid hd
    clear hd
    by_cases h4 : 1 ≤ vs.length ∧ vs.length ≤ 4
    · obtain ⟨hn, hl6, hq⟩ : (1 ≤ n ∧ n ≤ 3) ∧ l.length ≤ 6 ∧ l.all (iqB n) = true := by
        have h := Hd.out
        simp only [domB, Bool.and_eq_true, decide_eq_true_eq] at h
        exact ⟨h.1.1, h.1.2, h.2⟩
      have Hq := Lib.hid hq
      have H4 := Lib.hid h4
      clear hq
      go_enter Try.func49, Try.ntmps49
      go_wp2_with fail
      rw [← HW0.out]
      go_wp2_with fail
      refine hv.mono ?_
      rintro e w1 ⟨rfl, hb⟩
      have d0 := (hb.cell (p := ⟨w.heap.size, 0, none⟩) hlt0).trans c0
      have d1 := (hb.cell (p := ⟨w.heap.size, 1, none⟩) hlt0).trans c1
      have d2 := (hb.cell (p := ⟨w.heap.size, 2, none⟩) hlt0).trans c2
      have hin1 := (Hin.out.below hb (Nat.le_refl _)).mono hb.size
      have hb1 : Below w.heap.size w w1 := via hb0 hb
      have hs1 : w.heap.size < w1.heap.size := by have := hb.size; omega
      clear c0 c1 c2 hb hv
      go_wp2_with fail
      refine (All_ref n p c l w1 hl6 Hq.out hin1).mono ?_
      rintro e w2 ⟨va, rfl, hown, hb⟩
      obtain ⟨q, ca, rfl, _⟩ := hown.row (fun _ => rfl)
      have c0 := (hb.cell (p := ⟨w.heap.size, 0, none⟩) hs1).trans d0
      have c1 := (hb.cell (p := ⟨w.heap.size, 1, none⟩) hs1).trans d1
      have c2 := (hb.cell (p := ⟨w.heap.size, 2, none⟩) hs1).trans d2
      have hb2 : Below w.heap.size w w2 := via hb1 hb
      have hs2 : w.heap.size < w2.heap.size := by have := hb.size; omega
      clear d0 d1 d2 hb hown hin1 hb1 hs1
      by_cases hp : (ptsOf n l).length ≤ 1000
      · have hrec : recB n l vs = scanB vs.length n [] vs := by
          unfold recB
          rw [Hd.out, decide_eq_true hp, decide_eq_true H4.out]; rfl
        have Hrec := Lib.hid hrec
        have Hp := Lib.hid hp
        clear hrec
        have hvl : vs.length ≤ 4 := H4.out.2
        go_wp2_with fail
        clear hp
        go_loopw [3] (fun x wr => ∃ i : Nat, i ≤ vs.length ∧ x = .int .i64 i ∧ Below w2.heap.size w2 wr ∧ scanB vs.length n [] vs = scanB vs.length n ((vs.take i).map Vr.name) (vs.drop i)) (fun x _ => vs.length - (intOf x).toNat)
        case atStart => exact ⟨0, Nat.zero_le _, rfl, Below.refl _ _, rfl⟩
        case round =>
          obtain ⟨wo, hwo⟩ : ∃ wo, wo = wr := ⟨_, rfl⟩
          subst hwo
          obtain ⟨i, hi, rfl, hBW, hI⟩ := hrel
          have HI := Lib.hid hI
          clear hI
          have d0 := (hBW.cell (p := ⟨w.heap.size, 0, none⟩) hs2).trans c0
          have d1 := (hBW.cell (p := ⟨w.heap.size, 1, none⟩) hs2).trans c1
          have d2 := (hBW.cell (p := ⟨w.heap.size, 2, none⟩) hs2).trans c2
          have hs3 : w.heap.size < wo.heap.size := by have := hBW.size; omega
          have hB3 : Below w.heap.size w wo := via hb2 hBW
          by_cases hlt : i < vs.length
          · obtain ⟨b, off, hpv, hbw, hcell⟩ := (HR.out.vars.below hB3 (Nat.le_refl _)).at hlt
            obtain ⟨hd, hmem⟩ := tail_mem hlt
            have HD := Lib.hid hd
            have hsn := names_snoc vs i hlt
            have Hsn := Lib.hid hsn
            have hargs := HR.out.args _ hmem
            have hsmall := HR.out.small _ hmem
            rw [hpv] at d2
            have Hpv := Lib.hid hpv
            clear hpv
            generalize vs[i]! = v at *
            have e0 : wo.cell? ⟨b, off + i * 7, none⟩ = some (.string v.name) := hcell 0 (by decide)
            have e1 : wo.cell? ⟨b, off + i * 7 + 1, none⟩ = some (.int .i64 v.op) := hcell 1 (by decide)
            have e2 : wo.cell? ⟨b, off + i * 7 + 2, none⟩ = some (.slice v.ap v.args.length v.ac) := hcell 2 (by decide)
            have e3 : wo.cell? ⟨b, off + i * 7 + 3, none⟩ = some (.int .i64 v.i0) := hcell 3 (by decide)
            have e4 : wo.cell? ⟨b, off + i * 7 + 4, none⟩ = some (.int .i64 v.i1) := hcell 4 (by decide)
            have e5 : wo.cell? ⟨b, off + i * 7 + 5, none⟩ = some (.int .i64 v.i2) := hcell 5 (by decide)
            have e6 : wo.cell? ⟨b, off + i * 7 + 6, none⟩ = some (.int .i64 v.i3) := hcell 6 (by decide)
            clear hd hcell hmem hsn
            have hbr : b < wo.heap.size := by have := hB3.size; omega
            by_cases h1 : v.name.size = 1
            · have hc : 0 < v.name.size := by omega
              have hne : ((v.name.size : Int) != 1) = false := by rw [h1]; rfl
              have hnm : nameB v.name = decide (97 ≤ (v.name[0]).toNat ∧ (v.name[0]).toNat ≤ 122) := by unfold nameB; rw [dif_pos h1]
              have Hnm := Lib.hid hnm
              clear hnm
              by_cases h3 : 97 ≤ (v.name[0]).toNat ∧ (v.name[0]).toNat ≤ 122
              · have hnb : nameB v.name = true := Hnm.out.trans (decide_eq_true h3)
                have Hnb := Lib.hid hnb
                clear hnb
                obtain ⟨h5, h6⟩ := h3
                go_wp2_with fail
                have hrow := (hargs.below hB3 (Nat.le_refl _)).mono hB3.size
                refine (validVar_ref2 v n p c l (some ⟨b, off, none⟩) cv vs.length _ hn (by omega) hsmall.1 ((hrow.below (by go_grown) (Nat.le_refl _)).mono (by simp))).mono ?_
                rintro e w3 ⟨rfl, hb⟩
                have hvb : varB vs.length n v = (decide (1 ≤ v.op ∧ v.op ≤ 7) && decide (v.args.length = needs v.op) && initB n v.i0 v.i1 v.i2 v.i3 && v.args.all (agB vs.length n)) := by unfold varB; rw [Hnb.out]; simp
                rw [← hvb]
                have f2 : w3.cell? ⟨w.heap.size, 2, none⟩ = some (.slice (some ⟨b, off, none⟩) vs.length cv) := (hb.cell (p := ⟨w.heap.size, 2, none⟩) (by simp; omega)).trans ((World.cell?_alloc_past _ _ _ hs3).trans d2)
                have g0 : w3.cell? ⟨wo.heap.size, 0, none⟩ = some (.string v.name) := (hb.cell (p := ⟨wo.heap.size, 0, none⟩) (by simp)).trans (by simp [go_sem])
                have hB4 : Below wo.heap.size wo w3 := Below.trans (by go_grown) (hb.mono (by simp))
                have hs4 : wo.heap.size < w3.heap.size := by have := hb.size; simp at this; omega
                clear hvb hb hrow e0 e1 e2 e3 e4 e5 e6 h5 h6 hne
                cases hvb : varB vs.length n v
                · have Hvb := Lib.hid hvb
                  clear hvb
                  go_wp2
                  go_ret
                  exact ⟨ret_bool (by rw [Hrec.out, HI.out, HD.out, scanB_no _ _ _ _ _ (.inl Hvb.out)]), hB3.trans (hB4.mono (by omega))⟩
                · have Hvb := Lib.hid hvb
                  clear hvb
                  go_wp2
                  go_loopw [5] (fun y wr => ∃ k : Nat, k ≤ i ∧ y = .int .i64 k ∧ Below w3.heap.size w3 wr ∧ ∀ x ∈ (vs.take k), x.name ≠ v.name) (fun y _ => i - (intOf y).toNat)
                  case atStart => exact ⟨0, Nat.zero_le _, rfl, Below.refl _ _, by simp⟩
                  case round =>
                    obtain ⟨k, hk, rfl, hBZ, hN⟩ := hrel
                    have HN := Lib.hid hN
                    clear hN
                    have f2' := (hBZ.cell (p := ⟨w.heap.size, 2, none⟩) (by show w.heap.size < _; omega)).trans f2
                    have g0' := (hBZ.cell (p := ⟨wo.heap.size, 0, none⟩) hs4).trans g0
                    have hB5 : Below wo.heap.size wo wr := hB4.trans (hBZ.mono (by omega))
                    by_cases hlk : k < i
                    · obtain ⟨b', off', hpv', _, hcell'⟩ := (HR.out.vars.below (via hB3 hB5) (Nat.le_refl _)).at (show k < vs.length by omega)
                      rw [Hpv.out] at hpv'
                      obtain ⟨rfl, rfl⟩ : b = b' ∧ off = off' := by simpa using hpv'
                      have e0 : wr.cell? ⟨b, off + k * 7, none⟩ = some (.string (vs[k]!).name) := hcell' 0 (by decide)
                      clear hpv' hcell'
                      have hmk : vs.take (k + 1) = vs.take k ++ [vs[k]!] := by rw [List.take_succ_eq_append_getElem (by omega), getElem!_pos vs k (by omega)]
                      have hmi : (vs[k]!).name ∈ (vs.take i).map Vr.name := by
                        rw [List.mem_map]
                        exact ⟨_, List.mem_take_iff_getElem.2 ⟨k, by omega, (getElem!_pos vs k (by omega)).symm⟩, rfl⟩
                      have Hmk := Lib.hid hmk
                      have Hmi := Lib.hid hmi
                      clear hmk hmi
                      generalize vs[k]! = u at *
                      by_cases hu : u.name = v.name
                      · have hue : (u.name == v.name) = true := beq_bytes hu
                        have Hu := Lib.hid hu
                        go_wp2_with fail
                        go_quiet (fail)
                        go_wp2
                        go_ret
                        exact ⟨ret_bool (by rw [Hrec.out, HI.out, HD.out, scanB_no _ _ _ _ _ (.inr (Hu.out ▸ Hmi.out))]), drew_below (hB3.trans (hB5.mono (by omega))) _⟩
                      · have hue : (u.name == v.name) = false := bne_bytes hu
                        have Hu := Lib.hid hu
                        go_wp2_with fail
                        go_quiet (fail)
                        go_wp2
                        · exfalso; rename_i hx; rw [ByteArray.toList_eq, ByteArray.toList_eq] at hx; exact hu (ByteArray.ext (Array.toList_inj.mp (eq_of_beq hx)))
                        refine ⟨⟨k + 1, by omega, by go_num, drew_below hBZ _, ?_⟩, by simp [intOf]; omega⟩
                        intro x hx
                        rw [Hmk.out, List.mem_append] at hx
                        rcases hx with hx | hx
                        · exact HN.out x hx
                        · rw [List.mem_singleton.1 hx]; exact Hu.out
                    · go_wp2
                      have hnot : v.name ∉ (vs.take i).map Vr.name := by
                        rw [List.mem_map]
                        rintro ⟨x, hx, hxn⟩
                        exact HN.out x (by rwa [show k = i by omega]) hxn
                      go_roundw
                      case rel => exact ⟨i + 1, by omega, by go_num, hBW.trans (hB5.mono hBW.size), by rw [HI.out, HD.out, scanB_go _ _ _ _ _ Hvb.out hnot, Hsn.out]⟩
                      case measure => simp [intOf]; omega
              · have h7 : (v.name[0]).toNat < 97 ∨ 122 < (v.name[0]).toNat := by omega
                have hvb : varB vs.length n v = false := by unfold varB; rw [Hnm.out, decide_eq_false h3]; simp
                have Hvb := Lib.hid hvb
                clear hvb h3
                rcases h7 with h7 | h7
                all_goals
                  go_wp2
                  all_goals (go_ret; exact ⟨ret_bool (by rw [Hrec.out, HI.out, HD.out, scanB_no _ _ _ _ _ (.inl Hvb.out)]), by go_grown⟩)
            · have hvb : varB vs.length n v = false := by unfold varB nameB; rw [dif_neg h1]; simp
              have Hvb := Lib.hid hvb
              clear hvb
              have hne : ((v.name.size : Int) != 1) = true := by rw [bne_iff_ne]; omega
              go_wp2
              all_goals (go_ret; exact ⟨ret_bool (by rw [Hrec.out, HI.out, HD.out, scanB_no _ _ _ _ _ (.inl Hvb.out)]), by go_grown⟩)
          · go_wp2
            go_ret
            exact ⟨ret_bool (by rw [Hrec.out, HI.out, List.drop_eq_nil_of_le (by omega)]; rfl), hB3⟩
      · have hr : recB n l vs = false := by unfold recB; rw [decide_eq_false hp]; simp
        have Hr := Lib.hid hr
        clear hr
        go_wp2
        go_ret
        exact ⟨ret_bool Hr.out.symm, hb2⟩
    · have hr : recB n l vs = false := by unfold recB; rw [decide_eq_false h4]; simp
      have Hr := Lib.hid hr
      clear hr
      have h4' : vs.length < 1 ∨ 4 < vs.length := by omega
      rcases h4' with h4' | h4'
      all_goals
        go_enter Try.func49, Try.ntmps49
        go_wp2_with fail
        rw [← HW0.out]
        go_wp2_with (go_at_call 19; refine hv.mono ?_; rintro e w1 ⟨rfl, hb⟩; have hb1 : Below w.heap.size w w1 := via hb0 hb; have hcc := (bcell hb).1)
        go_ret
        exact ⟨ret_bool Hr.out.symm, hb1⟩
end Go.Proofs.Ytaimeemdmklmbaa
