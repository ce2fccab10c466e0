/- Which recurrences are valid, by the reference of layer 2. -/
import Derived.Test.YtaimeemdmklmbaaRec3
import Derived.Deep.QuietTactic
import Derived.BigQuiet
set_option linter.all false
namespace Go.Proofs.Ytaimeemdmklmbaa
open Go.RowKit Go.Shelf

set_option maxHeartbeats 1000000 in
theorem Needs_ref (op : Int) (w : World) : Calls Try.prog 103 #[.int .i64 op] w fun e w' => e = .returned (.int .i64 (needs op)) ∧ w' = w := by
  have h : op = 1 ∨ op = 2 ∨ op = 3 ∨ op = 4 ∨ op = 5 ∨ op = 6 ∨ op = 7 ∨ (op < 1 ∨ 7 < op) := by omega
  rcases h with rfl | rfl | rfl | rfl | rfl | rfl | rfl | h
  iterate 7
    · go_enter Try.func103, Try.ntmps103
      go_wp2
      go_ret
      exact ⟨rfl, rfl⟩
  have hn : needs op = 0 := by unfold needs; rw [if_neg (by omega), if_neg (by omega), if_neg (by omega)]
  rw [hn]
  clear hn
  have e1 : (op == 1) = false := by rw [beq_eq_false_iff_ne]; omega
  have e2 : (op == 2) = false := by rw [beq_eq_false_iff_ne]; omega
  have e3 : (op == 3) = false := by rw [beq_eq_false_iff_ne]; omega
  have e4 : (op == 4) = false := by rw [beq_eq_false_iff_ne]; omega
  have e5 : (op == 5) = false := by rw [beq_eq_false_iff_ne]; omega
  have e6 : (op == 6) = false := by rw [beq_eq_false_iff_ne]; omega
  have e7 : (op == 7) = false := by rw [beq_eq_false_iff_ne]; omega
  clear h
  go_enter Try.func103, Try.ntmps103
  go_wp2
  go_ret
  exact ⟨rfl, rfl⟩

theorem agB_no {m n : Int} {a : Ag} (h : ¬ (flatB a.p.x a.p.y a.p.z n 3 = true ∧ (0 ≤ a.v ∧ a.v ≤ m - 1))) : agB m n a = false := by
  cases hi : agB m n a
  · rfl
  · exact absurd (by simpa [agB] using hi) h
theorem agB_yes {m n : Int} {a : Ag} (h : flatB a.p.x a.p.y a.p.z n 3 = true ∧ (0 ≤ a.v ∧ a.v ≤ m - 1)) : agB m n a = true := by simpa [agB] using h
theorem drew_below {B : Nat} {a w : World} (h : Below B a w) (n : Nat) : Below B a (w.drewN n) := h.trans ⟨rfl, rfl, rfl, Nat.le_refl _, fun _ _ => rfl⟩
set_option maxRecDepth 100000 in
set_option maxHeartbeats 8000000 in
theorem vv_1 (v : Vr) (n : Int) (p : Option Addr) (c : Nat) (l : List Iq) (pv : Option Addr) (cv m : Nat) (w : World) (hn : n = 1) (hm : m ≤ 10000) (hl : v.args.length ≤ 10000) (Hr : Hid (Row w.heap.size w v.ap 4 Ag.enc v.args)) (h0 : ¬ v.args.length = 0) (hnl : v.args.length ≤ 3)
    (hN : ∀ w, Calls Try.prog 103 #[.int .i64 v.op] w fun e w' => e = .returned (.int .i64 v.args.length) ∧ w' = w) :
    Calls Try.prog 71 #[.agg #[.int .i64 n, .slice p l.length c, .slice pv m cv], .agg #[.string v.name, .int .i64 v.op, .slice v.ap v.args.length v.ac, .int .i64 v.i0, .int .i64 v.i1, .int .i64 v.i2, .int .i64 v.i3]] w fun e w' => e = .returned (.bool (initB n v.i0 v.i1 v.i2 v.i3 && v.args.all (agB m n))) ∧ Below w.heap.size w w' := by
  have hg : ((v.args.length : Int) == 0) = false := by rw [beq_eq_false_iff_ne]; omega
  subst hn
  go_enter Try.func71, Try.ntmps71
  go_wp2_with fail
  go_quiet ((go_at_call 103; exact Calls.quiet_of_same (hN _)))
  go_wp2
  obtain ⟨W, hW⟩ : ∃ W, W = ((w.alloc (.cells #[.int .i64 1, .slice p l.length c, .slice pv m cv] 27)).alloc (.cells #[.string v.name, .int .i64 v.op, .slice v.ap v.args.length v.ac, .int .i64 v.i0, .int .i64 v.i1, .int .i64 v.i2, .int .i64 v.i3] 47)).drewN nq := ⟨_, rfl⟩
  rw [← hW]
  have hB : Below w.heap.size w W := by rw [hW]; exact drew_below (by go_grown) _
  have hsz : w.heap.size + 2 = W.heap.size := by rw [hW]; simp
  have d0 : W.cell? ⟨w.heap.size, 0, none⟩ = some (.int .i64 1) := by rw [hW]; simp [go_sem]
  have d1 : W.cell? ⟨w.heap.size, 2, none⟩ = some (.slice pv m cv) := by rw [hW]; simp [go_sem]
  have e2 : W.cell? ⟨w.heap.size + 1, 2, none⟩ = some (.slice v.ap v.args.length v.ac) := by rw [hW]; simp [go_sem]
  have e3 : W.cell? ⟨w.heap.size + 1, 3, none⟩ = some (.int .i64 v.i0) := by rw [hW]; simp [go_sem]
  have e4 : W.cell? ⟨w.heap.size + 1, 4, none⟩ = some (.int .i64 v.i1) := by rw [hW]; simp [go_sem]
  have e5 : W.cell? ⟨w.heap.size + 1, 5, none⟩ = some (.int .i64 v.i2) := by rw [hW]; simp [go_sem]
  have e6 : W.cell? ⟨w.heap.size + 1, 6, none⟩ = some (.int .i64 v.i3) := by rw [hW]; simp [go_sem]
  clear hW hN h0 hnl hg
  refine wp_loop_rounds 5 ?_
  repeat any_goals (rw [rounds_succ]; go_wp2)
  any_goals (go_ret; exact ⟨ret_bool (by rw [initB_false (fun h => by (try simp only [bne_iff_ne, ne_eq] at *); omega)]; rfl), hB⟩)
  all_goals
    have hI : initB 1 v.i0 v.i1 v.i2 v.i3 = true := initB_true (by (try simp only [bne_eq_false_iff_eq] at *); omega)
    have HIi := Lib.hid hI
    clear hI e3 e4 e5 e6
    try generalize (v.i3 != 0) = z3
    try generalize (v.i2 != 0) = z2
    go_loopw [6] (fun x wr => ∃ k : Nat, k ≤ v.args.length ∧ x = .int .i64 k ∧ Below W.heap.size W wr ∧ v.args.all (agB m 1) = (v.args.drop k).all (agB m 1)) (fun x _ => v.args.length - (intOf x).toNat)
    case atStart => exact ⟨0, Nat.zero_le _, rfl, Below.refl _ _, rfl⟩
    case round =>
      obtain ⟨k, hk, rfl, hBW, hA⟩ := hrel
      have HA := Lib.hid hA
      clear hA
      have f0 : wr.cell? ⟨w.heap.size, 0, none⟩ = some (.int .i64 1) := (hBW.cell (p := ⟨w.heap.size, 0, none⟩) (by show w.heap.size < _; omega)).trans d0
      have f1 : wr.cell? ⟨w.heap.size, 2, none⟩ = some (.slice pv m cv) := (hBW.cell (p := ⟨w.heap.size, 2, none⟩) (by show w.heap.size < _; omega)).trans d1
      have f2 : wr.cell? ⟨w.heap.size + 1, 2, none⟩ = some (.slice v.ap v.args.length v.ac) := (hBW.cell (p := ⟨w.heap.size + 1, 2, none⟩) (by show w.heap.size + 1 < _; omega)).trans e2
      have hwz : w.heap.size + 2 ≤ wr.heap.size := by have := hBW.size; omega
      have hwz0 : w.heap.size < wr.heap.size := by omega
      have hwz1 : w.heap.size + 1 < wr.heap.size := by omega
      have hBw : Below w.heap.size w wr := hB.trans (hBW.mono (by omega))
      by_cases hlt : k < v.args.length
      · obtain ⟨b, off, hp, hbw, hcell⟩ := (Hr.out.below hBw (Nat.le_refl _)).at hlt
        rw [hp] at f2
        have hc0 : wr.cell? ⟨b, off + k * 4, none⟩ = some (.int .i64 v.args[k]!.v) := hcell 0 (by decide)
        have hc1 : wr.cell? ⟨b, off + k * 4 + 1, none⟩ = some (.int .i64 v.args[k]!.p.x) := hcell 1 (by decide)
        have hc2 : wr.cell? ⟨b, off + k * 4 + 2, none⟩ = some (.int .i64 v.args[k]!.p.y) := hcell 2 (by decide)
        have hc3 : wr.cell? ⟨b, off + k * 4 + 3, none⟩ = some (.int .i64 v.args[k]!.p.z) := hcell 3 (by decide)
        obtain ⟨hd, hmem⟩ := tail_mem hlt
        have HD := Lib.hid hd
        clear hd hcell hmem hp
        generalize v.args[k]! = a at *
        have hbr : b < wr.heap.size := by omega
        by_cases hv : 0 ≤ a.v ∧ a.v ≤ (m : Int) - 1
        · go_wp2
          refine wp_loop_rounds 4 ?_
          repeat any_goals (rw [rounds_succ]; go_wp2)
          any_goals (go_ret; exact ⟨ret_bool (by rw [HIi.out, HA.out, HD.out, List.all_cons, agB_no (fun h => by rw [flatB_iff] at h; (try simp only [bne_iff_ne, ne_eq] at *); omega)]; rfl), by go_grown⟩)
          all_goals
            have hy : agB m 1 a = true := agB_yes ⟨by rw [flatB_iff]; (try simp only [bne_eq_false_iff_eq] at *); omega, hv⟩
            go_roundw
            case rel => exact ⟨k + 1, by omega, by go_num, by go_grown, by rw [HA.out, HD.out, List.all_cons, hy, Bool.true_and]⟩
            case measure => simp [intOf]; omega
        · go_wp2
          all_goals (go_ret; exact ⟨ret_bool (by rw [HIi.out, HA.out, HD.out, List.all_cons, agB_no (fun h => hv h.2)]; rfl), by go_grown⟩)
      · go_wp2
        go_ret
        exact ⟨ret_bool (by rw [HIi.out, HA.out, List.drop_eq_nil_of_le (by omega)]; rfl), hBw⟩
set_option maxRecDepth 100000 in
set_option maxHeartbeats 8000000 in
theorem vv_2 (v : Vr) (n : Int) (p : Option Addr) (c : Nat) (l : List Iq) (pv : Option Addr) (cv m : Nat) (w : World) (hn : n = 2) (hm : m ≤ 10000) (hl : v.args.length ≤ 10000) (Hr : Hid (Row w.heap.size w v.ap 4 Ag.enc v.args)) (h0 : ¬ v.args.length = 0) (hnl : v.args.length ≤ 3)
    (hN : ∀ w, Calls Try.prog 103 #[.int .i64 v.op] w fun e w' => e = .returned (.int .i64 v.args.length) ∧ w' = w) :
    Calls Try.prog 71 #[.agg #[.int .i64 n, .slice p l.length c, .slice pv m cv], .agg #[.string v.name, .int .i64 v.op, .slice v.ap v.args.length v.ac, .int .i64 v.i0, .int .i64 v.i1, .int .i64 v.i2, .int .i64 v.i3]] w fun e w' => e = .returned (.bool (initB n v.i0 v.i1 v.i2 v.i3 && v.args.all (agB m n))) ∧ Below w.heap.size w w' := by
  have hg : ((v.args.length : Int) == 0) = false := by rw [beq_eq_false_iff_ne]; omega
  subst hn
  go_enter Try.func71, Try.ntmps71
  go_wp2_with fail
  go_quiet ((go_at_call 103; exact Calls.quiet_of_same (hN _)))
  go_wp2
  obtain ⟨W, hW⟩ : ∃ W, W = ((w.alloc (.cells #[.int .i64 2, .slice p l.length c, .slice pv m cv] 27)).alloc (.cells #[.string v.name, .int .i64 v.op, .slice v.ap v.args.length v.ac, .int .i64 v.i0, .int .i64 v.i1, .int .i64 v.i2, .int .i64 v.i3] 47)).drewN nq := ⟨_, rfl⟩
  rw [← hW]
  have hB : Below w.heap.size w W := by rw [hW]; exact drew_below (by go_grown) _
  have hsz : w.heap.size + 2 = W.heap.size := by rw [hW]; simp
  have d0 : W.cell? ⟨w.heap.size, 0, none⟩ = some (.int .i64 2) := by rw [hW]; simp [go_sem]
  have d1 : W.cell? ⟨w.heap.size, 2, none⟩ = some (.slice pv m cv) := by rw [hW]; simp [go_sem]
  have e2 : W.cell? ⟨w.heap.size + 1, 2, none⟩ = some (.slice v.ap v.args.length v.ac) := by rw [hW]; simp [go_sem]
  have e3 : W.cell? ⟨w.heap.size + 1, 3, none⟩ = some (.int .i64 v.i0) := by rw [hW]; simp [go_sem]
  have e4 : W.cell? ⟨w.heap.size + 1, 4, none⟩ = some (.int .i64 v.i1) := by rw [hW]; simp [go_sem]
  have e5 : W.cell? ⟨w.heap.size + 1, 5, none⟩ = some (.int .i64 v.i2) := by rw [hW]; simp [go_sem]
  have e6 : W.cell? ⟨w.heap.size + 1, 6, none⟩ = some (.int .i64 v.i3) := by rw [hW]; simp [go_sem]
  clear hW hN h0 hnl hg
  refine wp_loop_rounds 5 ?_
  repeat any_goals (rw [rounds_succ]; go_wp2)
  any_goals (go_ret; exact ⟨ret_bool (by rw [initB_false (fun h => by (try simp only [bne_iff_ne, ne_eq] at *); omega)]; rfl), hB⟩)
  all_goals
    have hI : initB 2 v.i0 v.i1 v.i2 v.i3 = true := initB_true (by (try simp only [bne_eq_false_iff_eq] at *); omega)
    have HIi := Lib.hid hI
    clear hI e3 e4 e5 e6
    try generalize (v.i3 != 0) = z3
    try generalize (v.i2 != 0) = z2
    go_loopw [6] (fun x wr => ∃ k : Nat, k ≤ v.args.length ∧ x = .int .i64 k ∧ Below W.heap.size W wr ∧ v.args.all (agB m 2) = (v.args.drop k).all (agB m 2)) (fun x _ => v.args.length - (intOf x).toNat)
    case atStart => exact ⟨0, Nat.zero_le _, rfl, Below.refl _ _, rfl⟩
    case round =>
      obtain ⟨k, hk, rfl, hBW, hA⟩ := hrel
      have HA := Lib.hid hA
      clear hA
      have f0 : wr.cell? ⟨w.heap.size, 0, none⟩ = some (.int .i64 2) := (hBW.cell (p := ⟨w.heap.size, 0, none⟩) (by show w.heap.size < _; omega)).trans d0
      have f1 : wr.cell? ⟨w.heap.size, 2, none⟩ = some (.slice pv m cv) := (hBW.cell (p := ⟨w.heap.size, 2, none⟩) (by show w.heap.size < _; omega)).trans d1
      have f2 : wr.cell? ⟨w.heap.size + 1, 2, none⟩ = some (.slice v.ap v.args.length v.ac) := (hBW.cell (p := ⟨w.heap.size + 1, 2, none⟩) (by show w.heap.size + 1 < _; omega)).trans e2
      have hwz : w.heap.size + 2 ≤ wr.heap.size := by have := hBW.size; omega
      have hwz0 : w.heap.size < wr.heap.size := by omega
      have hwz1 : w.heap.size + 1 < wr.heap.size := by omega
      have hBw : Below w.heap.size w wr := hB.trans (hBW.mono (by omega))
      by_cases hlt : k < v.args.length
      · obtain ⟨b, off, hp, hbw, hcell⟩ := (Hr.out.below hBw (Nat.le_refl _)).at hlt
        rw [hp] at f2
        have hc0 : wr.cell? ⟨b, off + k * 4, none⟩ = some (.int .i64 v.args[k]!.v) := hcell 0 (by decide)
        have hc1 : wr.cell? ⟨b, off + k * 4 + 1, none⟩ = some (.int .i64 v.args[k]!.p.x) := hcell 1 (by decide)
        have hc2 : wr.cell? ⟨b, off + k * 4 + 2, none⟩ = some (.int .i64 v.args[k]!.p.y) := hcell 2 (by decide)
        have hc3 : wr.cell? ⟨b, off + k * 4 + 3, none⟩ = some (.int .i64 v.args[k]!.p.z) := hcell 3 (by decide)
        obtain ⟨hd, hmem⟩ := tail_mem hlt
        have HD := Lib.hid hd
        clear hd hcell hmem hp
        generalize v.args[k]! = a at *
        have hbr : b < wr.heap.size := by omega
        by_cases hv : 0 ≤ a.v ∧ a.v ≤ (m : Int) - 1
        · go_wp2
          refine wp_loop_rounds 4 ?_
          repeat any_goals (rw [rounds_succ]; go_wp2)
          any_goals (go_ret; exact ⟨ret_bool (by rw [HIi.out, HA.out, HD.out, List.all_cons, agB_no (fun h => by rw [flatB_iff] at h; (try simp only [bne_iff_ne, ne_eq] at *); omega)]; rfl), by go_grown⟩)
          all_goals
            have hy : agB m 2 a = true := agB_yes ⟨by rw [flatB_iff]; (try simp only [bne_eq_false_iff_eq] at *); omega, hv⟩
            go_roundw
            case rel => exact ⟨k + 1, by omega, by go_num, by go_grown, by rw [HA.out, HD.out, List.all_cons, hy, Bool.true_and]⟩
            case measure => simp [intOf]; omega
        · go_wp2
          all_goals (go_ret; exact ⟨ret_bool (by rw [HIi.out, HA.out, HD.out, List.all_cons, agB_no (fun h => hv h.2)]; rfl), by go_grown⟩)
      · go_wp2
        go_ret
        exact ⟨ret_bool (by rw [HIi.out, HA.out, List.drop_eq_nil_of_le (by omega)]; rfl), hBw⟩
set_option maxRecDepth 100000 in
set_option maxHeartbeats 8000000 in
theorem vv_3 (v : Vr) (n : Int) (p : Option Addr) (c : Nat) (l : List Iq) (pv : Option Addr) (cv m : Nat) (w : World) (hn : n = 3) (hm : m ≤ 10000) (hl : v.args.length ≤ 10000) (Hr : Hid (Row w.heap.size w v.ap 4 Ag.enc v.args)) (h0 : ¬ v.args.length = 0) (hnl : v.args.length ≤ 3)
    (hN : ∀ w, Calls Try.prog 103 #[.int .i64 v.op] w fun e w' => e = .returned (.int .i64 v.args.length) ∧ w' = w) :
    Calls Try.prog 71 #[.agg #[.int .i64 n, .slice p l.length c, .slice pv m cv], .agg #[.string v.name, .int .i64 v.op, .slice v.ap v.args.length v.ac, .int .i64 v.i0, .int .i64 v.i1, .int .i64 v.i2, .int .i64 v.i3]] w fun e w' => e = .returned (.bool (initB n v.i0 v.i1 v.i2 v.i3 && v.args.all (agB m n))) ∧ Below w.heap.size w w' := by
  have hg : ((v.args.length : Int) == 0) = false := by rw [beq_eq_false_iff_ne]; omega
  subst hn
  go_enter Try.func71, Try.ntmps71
  go_wp2_with fail
  go_quiet ((go_at_call 103; exact Calls.quiet_of_same (hN _)))
  go_wp2
  obtain ⟨W, hW⟩ : ∃ W, W = ((w.alloc (.cells #[.int .i64 3, .slice p l.length c, .slice pv m cv] 27)).alloc (.cells #[.string v.name, .int .i64 v.op, .slice v.ap v.args.length v.ac, .int .i64 v.i0, .int .i64 v.i1, .int .i64 v.i2, .int .i64 v.i3] 47)).drewN nq := ⟨_, rfl⟩
  rw [← hW]
  have hB : Below w.heap.size w W := by rw [hW]; exact drew_below (by go_grown) _
  have hsz : w.heap.size + 2 = W.heap.size := by rw [hW]; simp
  have d0 : W.cell? ⟨w.heap.size, 0, none⟩ = some (.int .i64 3) := by rw [hW]; simp [go_sem]
  have d1 : W.cell? ⟨w.heap.size, 2, none⟩ = some (.slice pv m cv) := by rw [hW]; simp [go_sem]
  have e2 : W.cell? ⟨w.heap.size + 1, 2, none⟩ = some (.slice v.ap v.args.length v.ac) := by rw [hW]; simp [go_sem]
  have e3 : W.cell? ⟨w.heap.size + 1, 3, none⟩ = some (.int .i64 v.i0) := by rw [hW]; simp [go_sem]
  have e4 : W.cell? ⟨w.heap.size + 1, 4, none⟩ = some (.int .i64 v.i1) := by rw [hW]; simp [go_sem]
  have e5 : W.cell? ⟨w.heap.size + 1, 5, none⟩ = some (.int .i64 v.i2) := by rw [hW]; simp [go_sem]
  have e6 : W.cell? ⟨w.heap.size + 1, 6, none⟩ = some (.int .i64 v.i3) := by rw [hW]; simp [go_sem]
  clear hW hN h0 hnl hg
  refine wp_loop_rounds 5 ?_
  repeat any_goals (rw [rounds_succ]; go_wp2)
  any_goals (go_ret; exact ⟨ret_bool (by rw [initB_false (fun h => by (try simp only [bne_iff_ne, ne_eq] at *); omega)]; rfl), hB⟩)
  all_goals
    have hI : initB 3 v.i0 v.i1 v.i2 v.i3 = true := initB_true (by (try simp only [bne_eq_false_iff_eq] at *); omega)
    have HIi := Lib.hid hI
    clear hI e3 e4 e5 e6
    try generalize (v.i3 != 0) = z3
    try generalize (v.i2 != 0) = z2
    go_loopw [6] (fun x wr => ∃ k : Nat, k ≤ v.args.length ∧ x = .int .i64 k ∧ Below W.heap.size W wr ∧ v.args.all (agB m 3) = (v.args.drop k).all (agB m 3)) (fun x _ => v.args.length - (intOf x).toNat)
    case atStart => exact ⟨0, Nat.zero_le _, rfl, Below.refl _ _, rfl⟩
    case round =>
      obtain ⟨k, hk, rfl, hBW, hA⟩ := hrel
      have HA := Lib.hid hA
      clear hA
      have f0 : wr.cell? ⟨w.heap.size, 0, none⟩ = some (.int .i64 3) := (hBW.cell (p := ⟨w.heap.size, 0, none⟩) (by show w.heap.size < _; omega)).trans d0
      have f1 : wr.cell? ⟨w.heap.size, 2, none⟩ = some (.slice pv m cv) := (hBW.cell (p := ⟨w.heap.size, 2, none⟩) (by show w.heap.size < _; omega)).trans d1
      have f2 : wr.cell? ⟨w.heap.size + 1, 2, none⟩ = some (.slice v.ap v.args.length v.ac) := (hBW.cell (p := ⟨w.heap.size + 1, 2, none⟩) (by show w.heap.size + 1 < _; omega)).trans e2
      have hwz : w.heap.size + 2 ≤ wr.heap.size := by have := hBW.size; omega
      have hwz0 : w.heap.size < wr.heap.size := by omega
      have hwz1 : w.heap.size + 1 < wr.heap.size := by omega
      have hBw : Below w.heap.size w wr := hB.trans (hBW.mono (by omega))
      by_cases hlt : k < v.args.length
      · obtain ⟨b, off, hp, hbw, hcell⟩ := (Hr.out.below hBw (Nat.le_refl _)).at hlt
        rw [hp] at f2
        have hc0 : wr.cell? ⟨b, off + k * 4, none⟩ = some (.int .i64 v.args[k]!.v) := hcell 0 (by decide)
        have hc1 : wr.cell? ⟨b, off + k * 4 + 1, none⟩ = some (.int .i64 v.args[k]!.p.x) := hcell 1 (by decide)
        have hc2 : wr.cell? ⟨b, off + k * 4 + 2, none⟩ = some (.int .i64 v.args[k]!.p.y) := hcell 2 (by decide)
        have hc3 : wr.cell? ⟨b, off + k * 4 + 3, none⟩ = some (.int .i64 v.args[k]!.p.z) := hcell 3 (by decide)
        obtain ⟨hd, hmem⟩ := tail_mem hlt
        have HD := Lib.hid hd
        clear hd hcell hmem hp
        generalize v.args[k]! = a at *
        have hbr : b < wr.heap.size := by omega
        by_cases hv : 0 ≤ a.v ∧ a.v ≤ (m : Int) - 1
        · go_wp2
          refine wp_loop_rounds 4 ?_
          repeat any_goals (rw [rounds_succ]; go_wp2)
          any_goals (go_ret; exact ⟨ret_bool (by rw [HIi.out, HA.out, HD.out, List.all_cons, agB_no (fun h => by rw [flatB_iff] at h; (try simp only [bne_iff_ne, ne_eq] at *); omega)]; rfl), by go_grown⟩)
          all_goals
            have hy : agB m 3 a = true := agB_yes ⟨by rw [flatB_iff]; (try simp only [bne_eq_false_iff_eq] at *); omega, hv⟩
            go_roundw
            case rel => exact ⟨k + 1, by omega, by go_num, by go_grown, by rw [HA.out, HD.out, List.all_cons, hy, Bool.true_and]⟩
            case measure => simp [intOf]; omega
        · go_wp2
          all_goals (go_ret; exact ⟨ret_bool (by rw [HIi.out, HA.out, HD.out, List.all_cons, agB_no (fun h => hv h.2)]; rfl), by go_grown⟩)
      · go_wp2
        go_ret
        exact ⟨ret_bool (by rw [HIi.out, HA.out, List.drop_eq_nil_of_le (by omega)]; rfl), hBw⟩
set_option maxRecDepth 100000 in
set_option maxHeartbeats 8000000 in
theorem validVar_ref2 (v : Vr) (n : Int) (p : Option Addr) (c : Nat) (l : List Iq) (pv : Option Addr) (cv m : Nat) (w : World) (hn : 1 ≤ n ∧ n ≤ 3) (hm : m ≤ 10000) (hl : v.args.length ≤ 10000) (hr : Row w.heap.size w v.ap 4 Ag.enc v.args) :
    Calls Try.prog 71 #[.agg #[.int .i64 n, .slice p l.length c, .slice pv m cv], .agg #[.string v.name, .int .i64 v.op, .slice v.ap v.args.length v.ac, .int .i64 v.i0, .int .i64 v.i1, .int .i64 v.i2, .int .i64 v.i3]] w fun e w' => e = .returned (.bool (decide (1 ≤ v.op ∧ v.op ≤ 7) && decide (v.args.length = needs v.op) && initB n v.i0 v.i1 v.i2 v.i3 && v.args.all (agB m n))) ∧ Below w.heap.size w w' := by
  have hnl := needs_le v.op
  by_cases h0 : needs v.op = 0
  · have hg : ((needs v.op : Int) == 0) = true := by rw [h0]; rfl
    have hno : ¬ (1 ≤ v.op ∧ v.op ≤ 7) := by
      intro h
      unfold needs at h0
      repeat' (first | omega | split at h0)
    rw [decide_eq_false hno]
    have h0' := h0
    clear hno h0 hr
    have hN : ∀ w, Calls Try.prog 103 #[.int .i64 v.op] w fun e w' => e = .returned (.int .i64 0) ∧ w' = w := fun w => by
      have h := Needs_ref v.op w
      rw [h0'] at h
      exact h
    clear h0'
    go_enter Try.func71, Try.ntmps71
    go_wp2_with fail
    go_quiet ((go_at_call 103; exact Calls.quiet_of_same (hN _)))
    go_wp2
    go_ret
    exact ⟨rfl, drew_below (by go_grown) _⟩
  · have hop : 1 ≤ v.op ∧ v.op ≤ 7 := by
      unfold needs at h0
      repeat' (first | omega | split at h0)
    rw [decide_eq_true hop, Bool.true_and]
    have hN : ∀ w, Calls Try.prog 103 #[.int .i64 v.op] w fun e w' => e = .returned (.int .i64 (needs v.op)) ∧ w' = w := fun w => Needs_ref v.op w
    clear hop
    generalize needs v.op = k at hN h0 hnl ⊢
    have hg : ((k : Int) == 0) = false := by rw [beq_eq_false_iff_ne]; omega
    have HL : ¬ v.args.length = k ∨ v.args.length = k := by omega
    have Hr := Lib.hid hr
    clear hr
    rcases HL with hlk | hlk
    · have hne : ((v.args.length : Int) == (k : Int)) = false := by rw [beq_eq_false_iff_ne]; omega
      rw [decide_eq_false hlk, Bool.false_and, Bool.false_and]
      go_enter Try.func71, Try.ntmps71
      go_wp2_with fail
      go_quiet ((go_at_call 103; exact Calls.quiet_of_same (hN _)))
      go_wp2
      go_ret
      exact ⟨rfl, drew_below (by go_grown) _⟩
    · rw [decide_eq_true hlk, Bool.true_and]
      subst hlk
      have hn3 : n = 1 ∨ n = 2 ∨ n = 3 := by omega
      rcases hn3 with h | h | h
      · exact vv_1 v n p c l pv cv m w h hm hl Hr h0 hnl hN
      · exact vv_2 v n p c l pv cv m w h hm hl Hr h0 hnl hN
      · exact vv_3 v n p c l pv cv m w h hm hl Hr h0 hnl hN
end Go.Proofs.Ytaimeemdmklmbaa
