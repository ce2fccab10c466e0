/- Which variables are valid: what rec.validVar returns. -/
import Derived.Test.YtaimeemdmklmbaaRec
set_option linter.all false
namespace Go.Proofs.Ytaimeemdmklmbaa
open Go.RowKit Go.Shelf

theorem varB_op {vars n : Int} {v : Vr} (h : ¬ (1 ≤ v.op ∧ v.op ≤ 7)) : varB vars n v = false := by unfold varB; simp only [decide_eq_false h, Bool.false_and]
theorem varB_name {vars n : Int} {v : Vr} (h : nameB v.name = false) : varB vars n v = false := by unfold varB; simp [h]
theorem varB_len {vars n : Int} {v : Vr} (h : ¬ v.args.length = needs v.op) : varB vars n v = false := by unfold varB; simp [h]
theorem varB_init {vars n : Int} {v : Vr} (h : initB n v.i0 v.i1 v.i2 v.i3 = false) : varB vars n v = false := by unfold varB; simp [h]
theorem varB_args {vars n : Int} {v : Vr} (h1 : 1 ≤ v.op ∧ v.op ≤ 7) (h2 : nameB v.name = true) (h3 : v.args.length = needs v.op) (h4 : initB n v.i0 v.i1 v.i2 v.i3 = true) : varB vars n v = v.args.all (agB vars n) := by unfold varB; simp [h1, h2, h3, h4]
theorem needs_le (op : Int) : needs op ≤ 3 := by unfold needs; repeat' (first | omega | split)

set_option maxRecDepth 100000 in
set_option maxHeartbeats 4000000 in
theorem validVar_no (v : Vr) (vars n : Int) (w : World) (hn : 1 ≤ n ∧ n ≤ 3) (hv : 0 ≤ vars ∧ vars ≤ 10000) (hl : v.args.length ≤ 10000) (hs : v.name.size ≤ 1000) (h : (1 ≤ v.op ∧ v.op ≤ 7) → nameB v.name = true → ¬ v.args.length = needs v.op) :
    Calls Try.prog 67 #[.agg #[.string v.name, .int .i64 v.op, .slice v.ap v.args.length v.ac, .int .i64 v.i0, .int .i64 v.i1, .int .i64 v.i2, .int .i64 v.i3], .int .i64 vars, .int .i64 n] w fun e w' => e = .returned (.bool false) ∧ Below w.heap.size w w' := by
  obtain ⟨W0, hW0⟩ : ∃ W0, W0 = ((w.alloc (.cells #[.string v.name, .int .i64 v.op, .slice v.ap v.args.length v.ac, .int .i64 v.i0, .int .i64 v.i1, .int .i64 v.i2, .int .i64 v.i3] 47)).alloc (.cells #[.int .i64 vars] 3)).alloc (.cells #[.int .i64 n] 3) := ⟨_, rfl⟩
  have hb0 : Below w.heap.size w W0 := by rw [hW0]; go_grown
  have hsz : W0.heap.size = w.heap.size + 3 := by rw [hW0]; simp
  have HW0 := Lib.hid hW0
  by_cases h1 : 1 ≤ v.op ∧ v.op ≤ 7
  · have c0 : W0.cell? ⟨w.heap.size, 0, none⟩ = some (.string v.name) := by rw [hW0]; simp [go_sem]
    have c2 : W0.cell? ⟨w.heap.size, 2, none⟩ = some (.slice v.ap v.args.length v.ac) := by rw [hW0]; simp [go_sem]
    have hnl := needs_le v.op
    clear hW0
    go_enter Try.func67, Try.ntmps67
    go_wp2_with fail
    rw [← HW0.out]
    refine (kindOf_yes v.op _ h1).mono ?_
    rintro e w1 ⟨s, f, rfl, hb⟩
    have hb1 : Below w.heap.size w w1 := via hb0 hb
    have d0 := (hb.cell (p := ⟨w.heap.size, 0, none⟩) (by simp; omega)).trans c0
    have d2 := (hb.cell (p := ⟨w.heap.size, 2, none⟩) (by simp; omega)).trans c2
    have hs1 : w.heap.size < w1.heap.size := by have := hb.size; omega
    clear hb c0 c2
    by_cases h2 : v.name.size = 1
    · have hc : 0 < v.name.size := by omega
      have hne : ((v.name.size : Int) != 1) = false := by rw [h2]; rfl
      have hnm : nameB v.name = decide (97 ≤ (v.name[0]).toNat ∧ (v.name[0]).toNat ≤ 122) := by unfold nameB; rw [dif_pos h2]
      rw [hnm] at h
      by_cases h3 : 97 ≤ (v.name[0]).toNat ∧ (v.name[0]).toNat ≤ 122
      · have h4 := h h1 (decide_eq_true h3)
        obtain ⟨h5, h6⟩ := h3
        have hx : ((v.args.length : Int) != (needs v.op : Int)) = true := by rw [bne_iff_ne]; omega
        clear h h2 hnm
        go_wp2
        all_goals (go_ret; exact ⟨rfl, by go_grown⟩)
      · have h7 : (v.name[0]).toNat < 97 ∨ 122 < (v.name[0]).toNat := by omega
        clear h h2 hnm h3
        rcases h7 with h7 | h7
        all_goals
          go_wp2
          all_goals (go_ret; exact ⟨rfl, by go_grown⟩)
    · have hne : ((v.name.size : Int) != 1) = true := by rw [bne_iff_ne]; omega
      clear h h2
      go_wp2
      all_goals (go_ret; exact ⟨rfl, by go_grown⟩)
  · clear hW0 h
    go_enter Try.func67, Try.ntmps67
    go_wp2_with fail
    rw [← HW0.out]
    refine (kindOf_no v.op _ h1).mono ?_
    rintro e w1 ⟨rfl, hb⟩
    have hb1 : Below w.heap.size w w1 := via hb0 hb
    have hs1 := hb1.size
    clear hb h1
    go_wp2
    all_goals (go_ret; exact ⟨rfl, by go_grown⟩)

theorem initB_false {n a b c d : Int} (h : ¬ ((0 ≤ a ∧ a ≤ 10006) ∧ (0 ≤ b ∧ b ≤ 10006) ∧ (0 ≤ c ∧ c ≤ 10006) ∧ (0 ≤ d ∧ d ≤ 10006) ∧ (1 ≤ n ∨ b = 0) ∧ (2 ≤ n ∨ c = 0) ∧ (3 ≤ n ∨ d = 0))) : initB n a b c d = false := by
  cases hi : initB n a b c d
  · rfl
  · exfalso
    apply h
    simpa [initB, and_assoc] using hi
theorem initB_true {n a b c d : Int} (h : (0 ≤ a ∧ a ≤ 10006) ∧ (0 ≤ b ∧ b ≤ 10006) ∧ (0 ≤ c ∧ c ≤ 10006) ∧ (0 ≤ d ∧ d ≤ 10006) ∧ (1 ≤ n ∨ b = 0) ∧ (2 ≤ n ∨ c = 0) ∧ (3 ≤ n ∨ d = 0)) : initB n a b c d = true := by
  simpa [initB, and_assoc] using h

set_option maxRecDepth 100000 in
set_option maxHeartbeats 4000000 in
theorem validVar_yes (v : Vr) (vars n : Int) (w : World) (hn : 1 ≤ n ∧ n ≤ 3) (hv : 0 ≤ vars ∧ vars ≤ 10000) (h1 : 1 ≤ v.op ∧ v.op ≤ 7) (hnm : nameB v.name = true) (hlen : v.args.length = needs v.op) (hr : Row w.heap.size w v.ap 4 Ag.enc v.args) :
    Calls Try.prog 67 #[.agg #[.string v.name, .int .i64 v.op, .slice v.ap v.args.length v.ac, .int .i64 v.i0, .int .i64 v.i1, .int .i64 v.i2, .int .i64 v.i3], .int .i64 vars, .int .i64 n] w fun e w' => e = .returned (.bool (initB n v.i0 v.i1 v.i2 v.i3 && v.args.all (agB vars n))) ∧ Below w.heap.size w w' := by
  obtain ⟨W0, hW0⟩ : ∃ W0, W0 = ((w.alloc (.cells #[.string v.name, .int .i64 v.op, .slice v.ap v.args.length v.ac, .int .i64 v.i0, .int .i64 v.i1, .int .i64 v.i2, .int .i64 v.i3] 47)).alloc (.cells #[.int .i64 vars] 3)).alloc (.cells #[.int .i64 n] 3) := ⟨_, rfl⟩
  have hb0 : Below w.heap.size w W0 := by rw [hW0]; go_grown
  have hsz : W0.heap.size = w.heap.size + 3 := by rw [hW0]; simp
  have HW0 := Lib.hid hW0
  have c0 : W0.cell? ⟨w.heap.size, 0, none⟩ = some (.string v.name) := by rw [hW0]; simp [go_sem]
  have c2 : W0.cell? ⟨w.heap.size, 2, none⟩ = some (.slice v.ap v.args.length v.ac) := by rw [hW0]; simp [go_sem]
  have c3 : W0.cell? ⟨w.heap.size, 3, none⟩ = some (.int .i64 v.i0) := by rw [hW0]; simp [go_sem]
  have c4 : W0.cell? ⟨w.heap.size, 4, none⟩ = some (.int .i64 v.i1) := by rw [hW0]; simp [go_sem]
  have c5 : W0.cell? ⟨w.heap.size, 5, none⟩ = some (.int .i64 v.i2) := by rw [hW0]; simp [go_sem]
  have c6 : W0.cell? ⟨w.heap.size, 6, none⟩ = some (.int .i64 v.i3) := by rw [hW0]; simp [go_sem]
  have cv : W0.cell? ⟨w.heap.size + 1, 0, none⟩ = some (.int .i64 vars) := by rw [hW0]; simp [go_sem]
  have cn : W0.cell? ⟨w.heap.size + 1 + 1, 0, none⟩ = some (.int .i64 n) := by rw [hW0]; simp [go_sem]
  have hnl := needs_le v.op
  have hs : v.name.size = 1 := by
    unfold nameB at hnm; split at hnm
    · assumption
    · cases hnm
  have hc : 0 < v.name.size := by omega
  have hne : ((v.name.size : Int) != 1) = false := by rw [hs]; rfl
  have hnm' : nameB v.name = decide (97 ≤ (v.name[0]).toNat ∧ (v.name[0]).toNat ≤ 122) := by unfold nameB; rw [dif_pos hs]
  rw [hnm] at hnm'
  obtain ⟨h5, h6⟩ := of_decide_eq_true hnm'.symm
  have hx : ((v.args.length : Int) != (needs v.op : Int)) = false := by rw [hlen]; simp
  have hl4 : v.args.length ≤ 3 := by omega
  clear hW0 hnm hnm' hs hlen
  have i0 : ∀ w, (Instr.index 45 (.agg #[.int .i64 v.i0, .int .i64 v.i1, .int .i64 v.i2, .int .i64 v.i3]) (.int .i64 0)).run Try.prog w = .ok (.int .i64 v.i0) w := fun _ => by kernel_rfl
  have i1 : ∀ w, (Instr.index 45 (.agg #[.int .i64 v.i0, .int .i64 v.i1, .int .i64 v.i2, .int .i64 v.i3]) (.int .i64 1)).run Try.prog w = .ok (.int .i64 v.i1) w := fun _ => by kernel_rfl
  have i2 : ∀ w, (Instr.index 45 (.agg #[.int .i64 v.i0, .int .i64 v.i1, .int .i64 v.i2, .int .i64 v.i3]) (.int .i64 2)).run Try.prog w = .ok (.int .i64 v.i2) w := fun _ => by kernel_rfl
  have i3 : ∀ w, (Instr.index 45 (.agg #[.int .i64 v.i0, .int .i64 v.i1, .int .i64 v.i2, .int .i64 v.i3]) (.int .i64 3)).run Try.prog w = .ok (.int .i64 v.i3) w := fun _ => by kernel_rfl
  go_enter Try.func67, Try.ntmps67
  go_wp2_with fail
  rw [← HW0.out]
  refine (kindOf_yes v.op _ h1).mono ?_
  rintro e w1 ⟨s, f, rfl, hb⟩
  have hb1 : Below w.heap.size w w1 := via hb0 hb
  have d0 := (hb.cell (p := ⟨w.heap.size, 0, none⟩) (by simp; omega)).trans c0
  have d2 := (hb.cell (p := ⟨w.heap.size, 2, none⟩) (by simp; omega)).trans c2
  have d3 := (hb.cell (p := ⟨w.heap.size, 3, none⟩) (by simp; omega)).trans c3
  have d4 := (hb.cell (p := ⟨w.heap.size, 4, none⟩) (by simp; omega)).trans c4
  have d5 := (hb.cell (p := ⟨w.heap.size, 5, none⟩) (by simp; omega)).trans c5
  have d6 := (hb.cell (p := ⟨w.heap.size, 6, none⟩) (by simp; omega)).trans c6
  have dv := (hb.cell (p := ⟨w.heap.size + 1, 0, none⟩) (by simp; omega)).trans cv
  have dn := (hb.cell (p := ⟨w.heap.size + 1 + 1, 0, none⟩) (by simp; omega)).trans cn
  have hs1 : w.heap.size < w1.heap.size := by have := hb.size; omega
  have hs2 : w.heap.size + 1 < w1.heap.size := by have := hb.size; omega
  have hs3 : w.heap.size + 1 + 1 < w1.heap.size := by have := hb.size; omega
  clear hb c0 c2 c3 c4 c5 c6 cv cn
  go_wp2_with fail
  refine wp_loop_rounds 5 ?_
  repeat any_goals (rw [rounds_succ]; go_wp2_with (go_at_call 66; refine (between_rec _ _ _ _).mono ?_; rintro e w' ⟨rfl, rfl⟩))
  all_goals first
    | (go_ret; exact ⟨ret_bool (by rw [initB_false (fun h => by (try simp only [bne_iff_ne, ne_eq] at *); omega)]; rfl), by go_grown⟩)
    | skip
  all_goals
    have hI : initB n v.i0 v.i1 v.i2 v.i3 = true := initB_true (by (try simp only [bne_eq_false_iff_eq] at *); omega)
    have hb2 : Below w1.heap.size w1 (w1.alloc (.cells #[.string s, .int .i64 (needs v.op), .func (.func f) #[] #[]] 134)) := by go_grown
    have hb3 := via hb1 hb2
    refine (any_arg2 (f := 93) (enters_of Try.func93 (by kernel_rfl) rfl) (.pointer (some ⟨w.heap.size + 1 + 1, 0, none⟩)) (.pointer (some ⟨w.heap.size + 1, 0, none⟩)) v.ap v.ac v.args _ (fun a => !agB vars n a) (by omega)
      ((hr.below hb3 (Nat.le_refl _)).mono hb3.size) (fun W a hB _ => arg1_rec vars n a (w.heap.size + 1) (w.heap.size + 1 + 1) W hn hv (Nat.lt_of_lt_of_le (by simp; omega) hB.size) (Nat.lt_of_lt_of_le (by simp; omega) hB.size)
        ((hB.cell (p := ⟨w.heap.size + 1, 0, none⟩) (by simp; omega)).trans ((hb2.cell (p := ⟨w.heap.size + 1, 0, none⟩) hs2).trans dv)) ((hB.cell (p := ⟨w.heap.size + 1 + 1, 0, none⟩) (by simp; omega)).trans ((hb2.cell (p := ⟨w.heap.size + 1 + 1, 0, none⟩) hs3).trans dn)))).mono ?_
    rintro e w4 ⟨rfl, hb4⟩
    have hb5 := via hb3 hb4
    rw [any_not]
    have HI := Lib.hid hI
    clear hb4 hb2 hb3 hI
    go_wp2
    go_ret
    exact ⟨ret_bool (by rw [HI.out, Bool.true_and]), hb5⟩

/-- What rec.validVar returns. -/
theorem validVar_rec (v : Vr) (vars n : Int) (w : World) (hn : 1 ≤ n ∧ n ≤ 3) (hv : 0 ≤ vars ∧ vars ≤ 10000) (hl : v.args.length ≤ 10000) (hs : v.name.size ≤ 1000) (hr : Row w.heap.size w v.ap 4 Ag.enc v.args) :
    Calls Try.prog 67 #[.agg #[.string v.name, .int .i64 v.op, .slice v.ap v.args.length v.ac, .int .i64 v.i0, .int .i64 v.i1, .int .i64 v.i2, .int .i64 v.i3], .int .i64 vars, .int .i64 n] w fun e w' => e = .returned (.bool (varB vars n v)) ∧ Below w.heap.size w w' := by
  by_cases h : (1 ≤ v.op ∧ v.op ≤ 7) ∧ nameB v.name = true ∧ v.args.length = needs v.op
  · obtain ⟨h1, h2, h3⟩ := h
    have hb : varB vars n v = (initB n v.i0 v.i1 v.i2 v.i3 && v.args.all (agB vars n)) := by unfold varB; simp [h1, h2, h3]
    rw [hb]
    exact validVar_yes v vars n w hn hv h1 h2 h3 hr
  · have hb : varB vars n v = false := by
      by_cases h1 : 1 ≤ v.op ∧ v.op ≤ 7
      · by_cases h2 : nameB v.name = true
        · exact varB_len fun h3 => h ⟨h1, h2, h3⟩
        · exact varB_name (by simpa using h2)
      · exact varB_op h1
    rw [hb]
    exact validVar_no v vars n w hn hv hl hs fun h1 h2 h3 => h ⟨h1, h2, h3⟩
end Go.Proofs.Ytaimeemdmklmbaa
