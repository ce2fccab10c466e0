/- Which domains are valid, and which points satisfy their inequalities: the program's functions and the reference's. -/
import Derived.Test.YtaimeemdmklmbaaLeaf
import Derived.Test.YtaimeemdmklmbaaFind
import Derived.Shelf.Abstract
import Derived.Deep.RegionHeld3
import Derived.Deep.DrawnRows
set_option linter.all false
namespace Go.Proofs.Ytaimeemdmklmbaa
open Go.RowKit Go.Shelf
attribute [local go_sem ↓] Go.wp_at_zero Go.wp_at_succ

/-- An inequality is valid for n dimensions. -/
def iqB (n : Int) (q : Iq) : Bool := flatB q.a.x q.a.y q.a.z n 20 && decide (-1000 ≤ q.b ∧ q.b ≤ 1000)
/-- A domain is valid. -/
def domB (n : Int) (l : List Iq) : Bool := decide (1 ≤ n ∧ n ≤ 3) && decide (l.length ≤ 6) && l.all (iqB n)
/-- A point satisfies an inequality. -/
def satB (p : P3) (q : Iq) : Bool := decide (dot3 q.a p ≤ q.b)

theorem any_not {α : Type} (p : α → Bool) : ∀ l : List α, (l.any fun x => !p x) = !(l.all p)
  | [] => rfl
  | x :: r => by simp [any_not p r]

set_option maxHeartbeats 1000000 in
theorem valid1_poly (n : Int) (B : Nat) (q : Iq) (w : World) (hB : B < w.heap.size) (hn : w.cell? ⟨B, 0, none⟩ = some (.int .i64 n)) :
    Calls Try.prog 99 #[.agg #[.int .i64 q.a.x, .int .i64 q.a.y, .int .i64 q.a.z, .int .i64 q.b], .pointer (some ⟨B, 0, none⟩)] w fun e w' => e = .returned (.bool (!iqB n q)) ∧ Below w.heap.size w w' := by
  go_enter Try.func99, Try.ntmps99
  have hne : ¬ B = w.heap.size := by omega
  go_wp2_with (first | (go_at_call 100; refine (ranged_poly _ _ _ _ _ _ (by omega) (by omega)).mono ?_; rintro e w1 ⟨rfl, hb⟩; have hb' : Below w.heap.size w w1 := via (by go_grown) hb; obtain ⟨hcc, _⟩ := bcell hb; clear hb) | (go_at_call 97; refine (between_poly _ _ _ _).mono ?_; rintro e w' ⟨rfl, rfl⟩))
  all_goals (go_ret; exact ⟨ret_bool (by simp_all [iqB]), by go_grown⟩)

set_option maxHeartbeats 1000000 in
theorem Valid_poly (n : Int) (p : Option Addr) (c : Nat) (l : List Iq) (w : World) (hl : l.length ≤ 10000) (hr : Row w.heap.size w p 4 Iq.enc l) :
    Calls Try.prog 68 #[.agg #[.int .i64 n, .slice p l.length c]] w fun e w' => e = .returned (.bool (domB n l)) ∧ Below w.heap.size w w' := by
  have hb0 : Below w.heap.size w (w.alloc (.cells #[.int .i64 n, .slice p l.length c] 24)) := by go_grown
  have hcon := any_ineq1 (f := 99) (enters_of Try.func99 (by kernel_rfl) rfl) (.pointer (some ⟨w.heap.size, 0, none⟩)) p c l (w.alloc (.cells #[.int .i64 n, .slice p l.length c] 24)) (fun q => !iqB n q) hl
    ((hr.below hb0 (Nat.le_refl _)).mono hb0.size) (fun W q hB _ => valid1_poly n w.heap.size q W (Nat.lt_of_lt_of_le (by simp) hB.size) ((hB.cell (p := ⟨w.heap.size, 0, none⟩) (by simp)).trans (by simp [go_sem])))
  have H := Lib.hid hcon
  clear hcon hr
  have hbb : (l.any fun q => !iqB n q) = !(l.all (iqB n)) := any_not _ _
  rw [hbb] at H
  generalize hr : l.all (iqB n) = r at H
  have Hr := Lib.hid hr
  clear hbb hr
  go_enter Try.func68, Try.ntmps68
  go_wp2_with (first | (go_at_call 97; refine (between_poly _ _ _ _).mono ?_; rintro e w' ⟨rfl, rfl⟩) | (go_at_call 98; refine (H.out).mono ?_; rintro e w1 ⟨rfl, hb⟩; have hb' : Below w.heap.size w w1 := via hb0 hb; clear hb))
  all_goals (go_ret; exact ⟨ret_bool (by unfold domB; rw [Hr.out]; simp_all <;> omega), by go_grown⟩)

/-- In 'holds$1': 'times(q.A, p) > q.B*by', by being 1. -/
theorem holds1_poly (pt : P3) (Bp Bb : Nat) (q : Iq) (n : Int) (w : World) (hq : iqB n q = true) (hp : bd3 pt.x pt.y pt.z 20) (hB : Bp < w.heap.size) (hBb : Bb < w.heap.size)
    (h0 : w.cell? ⟨Bp, 0, none⟩ = some (.int .i64 pt.x)) (h1 : w.cell? ⟨Bp, 1, none⟩ = some (.int .i64 pt.y)) (h2 : w.cell? ⟨Bp, 2, none⟩ = some (.int .i64 pt.z)) (h3 : w.cell? ⟨Bb, 0, none⟩ = some (.int .i64 1)) :
    Calls Try.prog 124 #[.agg #[.int .i64 q.a.x, .int .i64 q.a.y, .int .i64 q.a.z, .int .i64 q.b], .pointer (some ⟨Bp, 0, none⟩), .pointer (some ⟨Bb, 0, none⟩)] w fun e w' => e = .returned (.bool (!satB pt q)) ∧ Below w.heap.size w w' := by
  have hq' : bd3 q.a.x q.a.y q.a.z 20 ∧ -1000 ≤ q.b ∧ q.b ≤ 1000 := by
    simp only [iqB, Bool.and_eq_true, flatB_iff, decide_eq_true_eq] at hq
    unfold bd3; omega
  obtain ⟨hq1, hq2, hq3⟩ := hq'
  have hne : ¬ Bp = w.heap.size := by omega
  have hne2 : ¬ Bb = w.heap.size := by omega
  have hl1 : Bp < w.heap.size + 1 := by omega
  have hl2 : Bb < w.heap.size + 1 := by omega
  have hd : dot3 q.a pt = q.a.x * pt.x + q.a.y * pt.y + q.a.z * pt.z := rfl
  have Hd := Lib.hid hd
  clear hd hq
  go_enter Try.func124, Try.ntmps124
  go_wp2_with fail
  go_region_held3 (fun w' => w'.cell? ⟨w.heap.size, 0, none⟩ = some (.int .i64 q.a.x) ∧ w'.cell? ⟨w.heap.size, 1, none⟩ = some (.int .i64 q.a.y) ∧ w'.cell? ⟨w.heap.size, 2, none⟩ = some (.int .i64 q.a.z) ∧ w'.cell? ⟨w.heap.size, 3, none⟩ = some (.int .i64 q.b) ∧
      w'.cell? ⟨Bp, 0, none⟩ = some (.int .i64 pt.x) ∧ w'.cell? ⟨Bp, 1, none⟩ = some (.int .i64 pt.y) ∧ w'.cell? ⟨Bp, 2, none⟩ = some (.int .i64 pt.z) ∧ w'.cell? ⟨Bb, 0, none⟩ = some (.int .i64 1)) (go_keep)
    (first | (go_at_call 125; refine (times_poly _ _ _ _ _ _ _ (by unfold bd3 at *; omega) (by unfold bd3 at *; omega)).mono ?_; rintro e w1 ⟨rfl, hb⟩; have hcc := (bcell hb).1; have hb' : Below w.heap.size w w1 := via (by go_grown) hb))
  go_wp2
  go_ret
  exact ⟨ret_bool (by unfold satB; rw [Hd.out, IntWalk.i64_in q.b (by omega), ← decide_not]; exact decide_eq_decide.2 Int.not_le.symm), by assumption⟩

set_option maxHeartbeats 1000000 in
theorem holds_poly (p : Option Addr) (c : Nat) (l : List Iq) (pt : P3) (n : Int) (w : World) (hl : l.length ≤ 6) (hq : l.all (iqB n) = true) (hp : bd3 pt.x pt.y pt.z 20) (hr : Row w.heap.size w p 4 Iq.enc l) :
    Calls Try.prog 102 #[.slice p l.length c, .agg #[.int .i64 pt.x, .int .i64 pt.y, .int .i64 pt.z], .int .i64 1] w fun e w' => e = .returned (.bool (l.all (satB pt))) ∧ Below w.heap.size w w' := by
  have hall : ∀ q ∈ l, iqB n q = true := List.all_eq_true.1 hq
  have hb0 : Below w.heap.size w ((w.alloc (.cells #[.int .i64 pt.x, .int .i64 pt.y, .int .i64 pt.z] 29)).alloc (.cells #[.int .i64 1] 3)) := by go_grown
  have hcon := any_ineq2 (f := 124) (enters_of Try.func124 (by kernel_rfl) rfl) (.pointer (some ⟨w.heap.size, 0, none⟩)) (.pointer (some ⟨w.heap.size + 1, 0, none⟩)) p c l _ (fun q => !satB pt q) (by omega)
    ((hr.below hb0 (Nat.le_refl _)).mono hb0.size) (fun W q hB hm => by
      have z1 : w.heap.size < W.heap.size := Nat.lt_of_lt_of_le (by simp; omega) hB.size
      have z2 : w.heap.size + 1 < W.heap.size := Nat.lt_of_lt_of_le (by simp) hB.size
      exact holds1_poly pt w.heap.size (w.heap.size + 1) q n W (hall q hm) hp z1 z2 ((hB.cell (p := ⟨w.heap.size, 0, none⟩) (by simp; omega)).trans (by simp [go_sem])) ((hB.cell (p := ⟨w.heap.size, 1, none⟩) (by simp; omega)).trans (by simp [go_sem])) ((hB.cell (p := ⟨w.heap.size, 2, none⟩) (by simp; omega)).trans (by simp [go_sem])) ((hB.cell (p := ⟨w.heap.size + 1, 0, none⟩) (by simp)).trans (by simp [go_sem])))
  have H := Lib.hid hcon
  clear hcon hr hall
  rw [any_not] at H
  generalize l.all (satB pt) = r at *
  clear hq
  go_enter Try.func102, Try.ntmps102
  go_wp2_with (go_at_call 98; refine (H.out).mono ?_; rintro e w1 ⟨rfl, hb⟩; have hb' : Below w.heap.size w w1 := via hb0 hb; clear hb)
  go_ret
  exact ⟨ret_bool (by simp), hb'⟩

set_option maxHeartbeats 1000000 in
theorem has_ref (p : Option Addr) (c : Nat) (l : List Iq) (x y z : Int) (n : Int) (w : World) (hl : l.length ≤ 6) (hq : l.all (iqB n) = true) (hr : Row w.heap.size w p 4 Iq.enc l) :
    Calls Try.prog 43 #[.agg #[.int .i64 n, .slice p l.length c], .agg #[.int .i64 x, .int .i64 y, .int .i64 z]] w fun e w' => e = .returned (.bool (flatB x y z n 20 && l.all (satB ⟨x, y, z⟩))) ∧ Below w.heap.size w w' := by
  have hall : ∀ q ∈ l, iqB n q = true := List.all_eq_true.1 hq
  have Hall := Lib.hid hall
  have Hr := Lib.hid hr
  clear hall hr hq
  by_cases hf : flatB x y z n 20 = true
  · have hbd : bd3 x y z 20 := by rw [flatB_iff] at hf; unfold bd3; omega
    rw [hf]
    have Hbd := Lib.hid hbd
    clear hbd
    go_enter Try.func43, Try.ntmps43
    go_wp2_with (go_at_call 40; refine (flat_ref _ _ _ _ _ _ (by omega) (by omega)).mono ?_; rintro e w1 ⟨rfl, hb⟩; rw [hf]; have hb' : Below w.heap.size w w1 := via (by go_grown) hb; obtain ⟨hcc, _⟩ := bcell hb; have hb1 := hb; clear hb)
    have hcc0 := hcc w.heap.size
    have hcc1 := hcc (w.heap.size + 1)
    clear hcc
    go_loopw [15] (fun i wr => ∃ k : Nat, k ≤ l.length ∧ i = .int .i64 k ∧ Below (w.heap.size + 2) w1 wr ∧ l.all (satB ⟨x, y, z⟩) = (l.drop k).all (satB ⟨x, y, z⟩)) (fun i _ => l.length - (intOf i).toNat)
    case atStart => exact ⟨0, Nat.zero_le _, rfl, Below.refl _ _, rfl⟩
    case round =>
      obtain ⟨k, hk, rfl, hB, hI⟩ := hrel
      have HI := Lib.hid hI
      clear hI
      have hB0 : Below w.heap.size w wr := hb'.trans (hB.mono (by omega))
      have hp0 : wr.cell? ⟨w.heap.size + 1, 0, none⟩ = some (.int .i64 x) := (hB.cell (p := ⟨w.heap.size + 1, 0, none⟩) (by simp)).trans (by rw [hcc1 0 (by simp)]; simp [go_sem])
      have hp1 : wr.cell? ⟨w.heap.size + 1, 1, none⟩ = some (.int .i64 y) := (hB.cell (p := ⟨w.heap.size + 1, 1, none⟩) (by simp)).trans (by rw [hcc1 1 (by simp)]; simp [go_sem])
      have hp2 : wr.cell? ⟨w.heap.size + 1, 2, none⟩ = some (.int .i64 z) := (hB.cell (p := ⟨w.heap.size + 1, 2, none⟩) (by simp)).trans (by rw [hcc1 2 (by simp)]; simp [go_sem])
      have hsz : w.heap.size + 2 ≤ wr.heap.size := by have := hB.size; have := hb1.size; simp at this; omega
      clear hcc0 hcc1
      by_cases hlt : k < l.length
      · obtain ⟨b, off, rfl, hbw, hcell⟩ := (Hr.out.below hB0 (Nat.le_refl _)).at hlt
        have hc0 : wr.cell? ⟨b, off + k * 4, none⟩ = some (.int .i64 (l[k]!).a.x) := hcell 0 (by decide)
        have hc1 : wr.cell? ⟨b, off + k * 4 + 1, none⟩ = some (.int .i64 (l[k]!).a.y) := hcell 1 (by decide)
        have hc2 : wr.cell? ⟨b, off + k * 4 + 2, none⟩ = some (.int .i64 (l[k]!).a.z) := hcell 2 (by decide)
        have hc3 : wr.cell? ⟨b, off + k * 4 + 3, none⟩ = some (.int .i64 (l[k]!).b) := hcell 3 (by decide)
        obtain ⟨hd, hmem⟩ := tail_mem hlt
        have hbq : bd3 (l[k]!).a.x (l[k]!).a.y (l[k]!).a.z 20 := by
          have := Hall.out _ hmem
          simp only [iqB, Bool.and_eq_true, flatB_iff, decide_eq_true_eq] at this
          unfold bd3; omega
        have Hbq := Lib.hid hbq
        have HD := Lib.hid hd
        clear hd hcell hmem hbq
        generalize l[k]! = q at *
        have hne : ¬ w.heap.size + 1 = wr.heap.size := by omega
        have hlt1 : w.heap.size + 1 < wr.heap.size + 1 := by omega
        go_wp2_with fail
        go_region_held3 (fun w' => w'.cell? ⟨wr.heap.size, 0, none⟩ = some (.int .i64 q.a.x) ∧ w'.cell? ⟨wr.heap.size, 1, none⟩ = some (.int .i64 q.a.y) ∧ w'.cell? ⟨wr.heap.size, 2, none⟩ = some (.int .i64 q.a.z) ∧ w'.cell? ⟨wr.heap.size, 3, none⟩ = some (.int .i64 q.b) ∧
          w'.cell? ⟨w.heap.size + 1, 0, none⟩ = some (.int .i64 x) ∧ w'.cell? ⟨w.heap.size + 1, 1, none⟩ = some (.int .i64 y) ∧ w'.cell? ⟨w.heap.size + 1, 2, none⟩ = some (.int .i64 z)) (go_keep)
          (first | (go_at_call 63; refine (Dot_ref _ _ _ _ _ _ _ (by have := Hbq.out; unfold bd3 at *; omega) (by have := Hbd.out; unfold bd3 at *; omega)).mono ?_; rintro e w3 ⟨rfl, hb3⟩; have hcc := (bcell hb3).1; have hB3 : Below (w.heap.size + 2) w1 w3 := (hB.alloc (by omega) _).drew.trans (hb3.mono (by simp; omega))))
        have hB4 : Below w.heap.size w w3 := hb'.trans (hB3.mono (by omega))
        have hsat : satB ⟨x, y, z⟩ q = decide (q.a.x * x + q.a.y * y + q.a.z * z ≤ q.b) := rfl
        have Hsat := Lib.hid hsat
        clear hsat
        go_wp2
        · have ht : q.b < q.a.x * x + q.a.y * y + q.a.z * z := by assumption
          go_ret
          exact ⟨ret_bool (by rw [HI.out, HD.out, List.all_cons, Hsat.out, decide_eq_false (by omega)]; rfl), hB4⟩
        · have ht : q.a.x * x + q.a.y * y + q.a.z * z ≤ q.b := by assumption
          go_roundw
          case rel => exact ⟨k + 1, by omega, by go_num, hB3, by rw [HI.out, HD.out, List.all_cons, Hsat.out, decide_eq_true ht]; rfl⟩
          case measure => simp [intOf]; omega
      · go_wp2
        go_ret
        exact ⟨ret_bool (by rw [HI.out, List.drop_eq_nil_of_le (by omega)]; rfl), hB0⟩
  · go_enter Try.func43, Try.ntmps43
    have hf' : flatB x y z n 20 = false := by simpa using hf
    clear hf
    go_wp2_with (go_at_call 40; refine (flat_ref _ _ _ _ _ _ (by omega) (by omega)).mono ?_; rintro e w1 ⟨rfl, hb⟩; rw [hf']; have hb' : Below w.heap.size w w1 := via (by go_grown) hb; obtain ⟨hcc, _⟩ := bcell hb; clear hb)
    go_ret
    exact ⟨ret_bool (by simp [hf']), hb'⟩

theorem iqB_far {n : Int} {q : Iq} (h : (!decide (-1000 ≤ q.b)) = true ∨ (!decide (q.b ≤ 1000)) = true) : iqB n q = false := by
  simp at h; unfold iqB; simp; intros; omega
theorem iqB_near {n : Int} {q : Iq} (h1 : flatB q.a.x q.a.y q.a.z n 20 = true) (h : (!decide (-1000 ≤ q.b)) = false ∧ (!decide (q.b ≤ 1000)) = false) : iqB n q = true := by
  simp at h; unfold iqB; simp [h1, h]
theorem iqB_not {n : Int} {q : Iq} (h1 : ¬ flatB q.a.x q.a.y q.a.z n 20 = true) : iqB n q = false := by
  unfold iqB; simp at h1; simp [h1]

set_option maxHeartbeats 1000000 in
theorem Valid_ref1 (n : Int) (p : Option Addr) (c : Nat) (l : List Iq) (w : World) (hl : l.length ≤ 10000) (hr : Row w.heap.size w p 4 Iq.enc l) :
    Calls Try.prog 19 #[.agg #[.int .i64 n, .slice p l.length c]] w fun e w' => e = .returned (.bool (domB n l)) ∧ Below w.heap.size w w' := by
  have Hr := Lib.hid hr
  clear hr
  by_cases hn : (1 ≤ n ∧ n ≤ 3) ∧ l.length ≤ 6
  · have hd : domB n l = l.all (iqB n) := by unfold domB; simp [hn]
    obtain ⟨⟨hn1, hn2⟩, hl6⟩ := hn
    rw [hd]
    clear hd
    go_enter Try.func19, Try.ntmps19
    go_wp2_with fail
    go_loopw [22] (fun i wr => ∃ k : Nat, k ≤ l.length ∧ i = .int .i64 k ∧ wr.cell? ⟨w.heap.size, 0, none⟩ = some (.int .i64 n) ∧ Below (w.heap.size + 1) (w.alloc (.cells #[.int .i64 n, .slice p l.length c] 24)) wr ∧ l.all (iqB n) = (l.drop k).all (iqB n)) (fun i _ => l.length - (intOf i).toNat)
    case atStart => exact ⟨0, Nat.zero_le _, rfl, by simp [go_sem], by simpa using Below.refl _ _, rfl⟩
    case round =>
      obtain ⟨k, hk, rfl, hcn, hB, hI⟩ := hrel
      have HI := Lib.hid hI
      clear hI
      have hB0 : Below w.heap.size w wr := (by go_grown : Below w.heap.size w (w.alloc (.cells #[.int .i64 n, .slice p l.length c] 24))).trans (hB.mono (by omega))
      have hsz := hB.size
      simp only [World.size_alloc] at hsz
      by_cases hlt : k < l.length
      · obtain ⟨b, off, rfl, hbw, hcell⟩ := (Hr.out.below hB0 (Nat.le_refl _)).at hlt
        have hc0 : wr.cell? ⟨b, off + k * 4, none⟩ = some (.int .i64 (l[k]!).a.x) := hcell 0 (by decide)
        have hc1 : wr.cell? ⟨b, off + k * 4 + 1, none⟩ = some (.int .i64 (l[k]!).a.y) := hcell 1 (by decide)
        have hc2 : wr.cell? ⟨b, off + k * 4 + 2, none⟩ = some (.int .i64 (l[k]!).a.z) := hcell 2 (by decide)
        have hc3 : wr.cell? ⟨b, off + k * 4 + 3, none⟩ = some (.int .i64 (l[k]!).b) := hcell 3 (by decide)
        obtain ⟨hd, hmem⟩ := tail_mem hlt
        have HD := Lib.hid hd
        clear hd hcell hmem
        generalize l[k]! = q at *
        have hlt0 : w.heap.size < wr.heap.size := by omega
        have hlt1 : w.heap.size < wr.heap.size + 1 := by omega
        go_wp2_with (first | (go_at_call 40; refine (flat_ref _ _ _ _ _ _ (by omega) (by omega)).mono ?_; rintro e w1 ⟨rfl, hb⟩; have hb' : Below (w.heap.size + 1) (w.alloc (.cells #[.int .i64 n, .slice (some ⟨b, off, none⟩) l.length c] 24)) w1 := (hB.alloc (by omega) _).trans (hb.mono (by simp; omega)); obtain ⟨hcc, _⟩ := bcell hb; clear hb) | (go_at_call 41; refine (inRange_ref _ _ _ (by omega) (by omega)).mono ?_; rintro e w' ⟨rfl, rfl⟩))
        · go_ret
          exact ⟨ret_bool (by rw [HI.out, HD.out, List.all_cons, iqB_far (by assumption)]; rfl), (by go_grown : Below w.heap.size w (w.alloc (.cells #[.int .i64 n, .slice (some ⟨b, off, none⟩) l.length c] 24))).trans (hb'.mono (by omega))⟩
        · go_roundw
          case rel => exact ⟨k + 1, by omega, by go_num, by rw [hcc _ _ (by simp; omega)]; exact (World.cell?_alloc_past _ _ _ hlt0).trans hcn, hb', by rw [HI.out, HD.out, List.all_cons, iqB_near (by assumption) (by assumption)]; rfl⟩
          case measure => simp [intOf]; omega
        · go_ret
          exact ⟨ret_bool (by rw [HI.out, HD.out, List.all_cons, iqB_not (by assumption)]; rfl), (by go_grown : Below w.heap.size w (w.alloc (.cells #[.int .i64 n, .slice (some ⟨b, off, none⟩) l.length c] 24))).trans (hb'.mono (by omega))⟩
      · go_wp2
        go_ret
        exact ⟨ret_bool (by rw [HI.out, List.drop_eq_nil_of_le (by omega)]; rfl), hB0⟩
  · have hd : domB n l = false := by unfold domB; simp; omega
    rw [hd]
    clear hd
    by_cases h1 : n < 1
    · go_enter Try.func19, Try.ntmps19
      go_wp2
      go_ret
      exact ⟨rfl, by go_grown⟩
    · by_cases h2 : 3 < n
      · go_enter Try.func19, Try.ntmps19
        go_wp2
        go_ret
        exact ⟨rfl, by go_grown⟩
      · have h3 : 6 < l.length := by omega
        go_enter Try.func19, Try.ntmps19
        go_wp2
        go_ret
        exact ⟨rfl, by go_grown⟩
end Go.Proofs.Ytaimeemdmklmbaa
