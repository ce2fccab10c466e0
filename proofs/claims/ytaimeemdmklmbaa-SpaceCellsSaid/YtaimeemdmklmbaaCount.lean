/- How many points a domain has, and its points: what poly.points, Count and Points return. -/
import Derived.Test.YtaimeemdmklmbaaIter
set_option linter.all false
namespace Go.Proofs.Ytaimeemdmklmbaa
open Go.RowKit Go.Shelf
attribute [local go_sem] Oper.semAt_some

theorem flatMap_le {α β : Type} (f : α → List β) (m : Nat) : ∀ (xs : List α), (∀ x, (f x).length ≤ m) → (xs.flatMap f).length ≤ xs.length * m
  | [], _ => by simp
  | x :: r, h => by
    have h1 := flatMap_le f m r h
    have h2 := h x
    simp only [List.flatMap_cons, List.length_append, List.length_cons, Nat.add_mul]
    omega
theorem span_len (n : Int) (i : Nat) : (span (farN n i)).length ≤ 41 := by have := farN_le n i; simp [span]; omega
theorem pts_le (n : Int) (l : List Iq) : (ptsOf n l).length ≤ 100000 := by
  have h2 : ∀ x y, (lineOf n l x y (span (farN n 2))).length ≤ 41 := fun x y => by
    unfold lineOf
    refine Nat.le_trans (List.length_filter_le _ _) ?_
    rw [List.length_map]
    exact span_len n 2
  have h1 : ∀ x, (planeOf n l x (span (farN n 1))).length ≤ 41 * 41 := fun x => Nat.le_trans (flatMap_le _ 41 _ (h2 x)) (Nat.mul_le_mul_right _ (span_len n 1))
  exact Nat.le_trans (flatMap_le _ (41 * 41) _ h1) (Nat.le_trans (Nat.mul_le_mul_right _ (span_len n 0)) (by decide))

theorem domB_n {n : Int} {l : List Iq} (h : domB n l = true) : (1 ≤ n ∧ n ≤ 3) ∧ l.length ≤ 6 ∧ l.all (iqB n) = true := by
  unfold domB at h
  simp only [Bool.and_eq_true, decide_eq_true_eq] at h
  exact ⟨h.1.1, h.1.2, h.2⟩

set_option maxHeartbeats 1000000 in
theorem points_poly (n : Int) (p : Option Addr) (c : Nat) (l : List Iq) (w : World) (hn : 1 ≤ n ∧ n ≤ 3) :
    Calls Try.prog 69 #[.agg #[.int .i64 n, .slice p l.length c]] w fun e w' => e = .returned (.func (.func 101) #[] #[.pointer (some ⟨w.heap.size + 1, 0, none⟩), .pointer (some ⟨w.heap.size, 0, none⟩)]) ∧ Below w.heap.size w w' ∧ w'.heap.size = w.heap.size + 2 ∧
      w'.cell? ⟨w.heap.size + 1, 0, none⟩ = some (.int .i64 (farN n 0)) ∧ w'.cell? ⟨w.heap.size + 1, 1, none⟩ = some (.int .i64 (farN n 1)) ∧ w'.cell? ⟨w.heap.size + 1, 2, none⟩ = some (.int .i64 (farN n 2)) ∧
      w'.cell? ⟨w.heap.size, 0, none⟩ = some (.int .i64 n) ∧ w'.cell? ⟨w.heap.size, 1, none⟩ = some (.slice p l.length c) := by
  have h3 : n = 1 ∨ n = 2 ∨ n = 3 := by omega
  clear hn
  rcases h3 with rfl | rfl | rfl
  all_goals
    go_enter Try.func69, Try.ntmps69
    go_wp2
    refine wp_loop_rounds 4 ?_
    repeat any_goals (rw [rounds_succ]; go_wp2)
    go_ret
    refine ⟨rfl, by go_grown, by simp, ?_, ?_, ?_, ?_, ?_⟩ <;> simp [go_sem, farN]

/-- The iterator of a domain's points gives all of them, in order. -/
theorem points_stops (k : Nat) (hk : 1 ≤ k) (n : Int) (p : Option Addr) (c : Nat) (l : List Iq) (hl : l.length ≤ 6) (hq : l.all (iqB n) = true) (n0 X B0 : Nat) (w : World) (Bm Bd : Nat) (hBm : Bm < n0) (hBd : Bd < n0) (hXm : Bm ≠ X) (hXd : Bd ≠ X) (hB0 : B0 ≤ n0) (hBX : B0 ≤ X) (hn0 : n0 ≤ w.heap.size)
    (hm0 : w.cell? ⟨Bm, 0, none⟩ = some (.int .i64 (farN n 0))) (hm1 : w.cell? ⟨Bm, 1, none⟩ = some (.int .i64 (farN n 1))) (hm2 : w.cell? ⟨Bm, 2, none⟩ = some (.int .i64 (farN n 2)))
    (hd0 : w.cell? ⟨Bd, 0, none⟩ = some (.int .i64 n)) (hd1 : w.cell? ⟨Bd, 1, none⟩ = some (.slice p l.length c)) (hr : Row B0 w p 4 Iq.enc l) :
    SeqStopsK Fence.wide k Try.prog 101 #[.pointer (some ⟨Bm, 0, none⟩), .pointer (some ⟨Bd, 0, none⟩)] (fun x : P3 => #[.agg #[.int .i64 x.x, .int .i64 x.y, .int .i64 x.z]]) (Kept n0 X) (fun ys => ys = ptsOf n l) (fun pre => pre <+: ptsOf n l) (ptsOf n l).length w := fun l0 J Jx W hW hJ _ hY h0 =>
  points1_in k n0 X B0 hk l0 Bm Bd n p c l hl hq J Jx W hJ hY hBm hBd hXm hXd hB0 hBX ((hW.cell (p := ⟨Bm, 0, none⟩) (by simp; omega)).trans hm0) ((hW.cell (p := ⟨Bm, 1, none⟩) (by simp; omega)).trans hm1) ((hW.cell (p := ⟨Bm, 2, none⟩) (by simp; omega)).trans hm2)
    ((hW.cell (p := ⟨Bd, 0, none⟩) (by simp; omega)).trans hd0) ((hW.cell (p := ⟨Bd, 1, none⟩) (by simp; omega)).trans hd1) (hr.below hW (by omega)) (Nat.le_trans hn0 hW.size) h0

set_option maxRecDepth 100000 in
set_option maxHeartbeats 2000000 in
theorem Count_poly (n : Int) (p : Option Addr) (c : Nat) (l : List Iq) (w : World) (hl : l.length ≤ 10000) (hr : Row w.heap.size w p 4 Iq.enc l) :
    Calls Try.prog 65 #[.agg #[.int .i64 n, .slice p l.length c]] w fun e w' => e = .returned (.tuple #[.int .i64 (if domB n l then (ptsOf n l).length else 0), .int .i64 (if domB n l then 0 else 10)]) ∧ Below w.heap.size w w' := by
  have hb0 : Below w.heap.size w (w.alloc (.cells #[.int .i64 n, .slice p l.length c] 24)) := by go_grown
  have hrow0 := (hr.below hb0 (Nat.le_refl _)).mono hb0.size
  have hval := Valid_poly n p c l _ hl hrow0
  by_cases hd : domB n l = true
  · obtain ⟨hn, hl6, hq⟩ := domB_n hd
    rw [hd] at hval ⊢
    refine (callsIn_wide (n := 5)).1 ?_
    refine callsIn_of_wp_marks Try.func65 rfl trivial ?_ rfl
    simp only [Try.ntmps65, List.size_toArray, List.length_cons, List.length_nil, Nat.reduceAdd, Nat.reduceSub, Array.replicate_succ, Array.replicate_zero, List.push_toArray, List.append_toArray, List.nil_append, List.cons_append]
    have Hval := Lib.hid hval
    have hle := pts_le n l
    clear hval hd
    gi_wp2_with fail
    refine ⟨trivial, (callsIn_wide.2 Hval.out).mono ?_⟩
    rintro e w1 ⟨rfl, hb⟩
    have hB1 : Below w.heap.size w w1 := via hb0 hb
    have d0 : w1.cell? ⟨w.heap.size, 0, none⟩ = some (.int .i64 n) := (hb.cell (p := ⟨w.heap.size, 0, none⟩) (by simp)).trans (by simp [go_sem])
    have d1 : w1.cell? ⟨w.heap.size, 1, none⟩ = some (.slice p l.length c) := (hb.cell (p := ⟨w.heap.size, 1, none⟩) (by simp)).trans (by simp [go_sem])
    have hlt : w.heap.size < w1.heap.size := by have := hb.size; simp at this; omega
    have hrow1 := hr.below hB1 (Nat.le_refl _)
    clear hb hrow0 Hval hr
    gi_wp2_with fail
    refine ⟨trivial, (callsIn_wide.2 (points_poly n p c l _ hn)).mono ?_⟩
    rintro e w2 ⟨rfl, hb, hsz, m0, m1, m2, e0, e1⟩
    rw [World.size_alloc] at hb hsz m0 m1 m2 e0 e1 ⊢
    have bN : Boxed w2 w1.heap.size 3 (.int .i64 0) := (hb.block w1.heap.size (by omega)).trans (Boxed.new w1 3 (.int .i64 0))
    have hB2 : Below w.heap.size w w2 := (hB1.trans ((Below.refl _ w1).alloc hB1.size _)).trans (hb.mono (by have := hB1.size; omega))
    have hrow2 := (hrow1.below ((Below.refl w1.heap.size w1).alloc (Nat.le_refl _) _) hB1.size).below hb (by omega)
    clear hb
    gi_wp2_with fail
    refine wpIn_rangeFunc_ownG rfl (by decide) (gf := 101) (lb := #[.pointer (some ⟨w1.heap.size + 1 + 1, 0, none⟩), .pointer (some ⟨w1.heap.size + 1, 0, none⟩)]) rfl trivial (enters_of Try.func101 (by kernel_rfl) rfl)
      (points_stops 4 (by decide) n p c l hl6 hq w2.heap.size w1.heap.size w.heap.size w2 (w1.heap.size + 1 + 1) (w1.heap.size + 1) (by omega) (by omega) (by omega) (by omega) (by omega) (by omega) (Nat.le_refl _) m0 m1 m2 e0 e1 hrow2) Kept.trans
      (fun W l o o' hl h _ _ => ⟨by simp [World.putObj], fun k hk _ => (grownBy_putObj' W l o').block k (by have := (Array.getElem?_eq_some_iff.1 h).1; omega) (by intro e; cases e; omega)⟩) (Below.refl _ _) (fun _ => rfl)
      (fun pre W => Boxed W w1.heap.size 3 (.int .i64 (pre.length : Int)) ∧ Below w.heap.size w W) (fun _ _ _ => False)
      (OwnFrom.and (Own.from (boxed_own w1.heap.size 3 (fun pre : List P3 => .int .i64 (pre.length : Int))) _) (ownFrom_below (Nat.le_refl _) (by omega)))
      (fun _ _ _ _ _ hs _ _ => hs) ⟨bN, hB2⟩ (fun x => { tmps := #[.agg #[.int .i64 n, .slice p l.length c], .pointer (some ⟨w.heap.size, 0, none⟩), .int .i64 0, .int .i64 0, .pointer (some ⟨w1.heap.size, 0, none⟩), .agg #[.int .i64 n, .slice p l.length c], .bool true, .bool false, .agg #[.int .i64 n, .slice p l.length c], .func (.func 101) #[] #[.pointer (some ⟨w1.heap.size + 1 + 1, 0, none⟩), .pointer (some ⟨w1.heap.size + 1, 0, none⟩)], .agg #[.int .i64 x.x, .int .i64 x.y, .int .i64 x.z], undef, undef, undef], defers := [] }) ?assign ?body ?done ?stop
    case assign =>
      intro l x W K hK
      gi_wp2
      simpa using hK
    case body =>
      rintro l pre x W ⟨hN, hB⟩ hlt
      have hc := hN.cell
      have hf := hN.frozen
      have hbd : pre.length ≤ 100000 := Nat.le_of_lt (Nat.lt_of_lt_of_le hlt hle)
      gi_wp2
      exact ⟨(KeepsOthers.setCell _ _ _).from _, ⟨by simp [World.setCell], fun k hk hx => Below.heap_setCell W _ _ k hx⟩, ⟨by simpa using hN.set _, hB.setCell (p := ⟨w1.heap.size, 0, none⟩) hB1.size _⟩⟩
    case done =>
      rintro D ys W hD rfl ⟨hN, hB⟩ hK
      have hc := hN.cell
      gi_wp2
      refine ⟨by simp, .inl ⟨_, _, rfl, run_takeDeferred hK, ?_⟩⟩
      exact ⟨_, results_tmp2 rfl _ _ _, rfl, hB.trans (belowK_b (w := w) (Nat.le_refl _) W D _ _ (by omega) hK rfl rfl)⟩
    case stop =>
      rintro D c pre W _ _ h _
      exact h.elim
  · have hd' : domB n l = false := by simpa using hd
    rw [hd'] at hval ⊢
    have Hval := Lib.hid hval
    clear hval hd hd' hr hrow0
    go_enter Try.func65, Try.ntmps65
    go_wp2_with (go_at_call 68; refine (Hval.out).mono ?_; rintro e w1 ⟨rfl, hb⟩; have hb' : Below w.heap.size w w1 := via hb0 hb; clear hb)
    go_ret2
    exact ⟨rfl, hb'⟩

/-- Block B holds just these cells. -/
def Block (W : World) (B : Nat) (t : TypeId) (cs : Array Value) : Prop := W.heap[B]? = some (.cells cs t (0, 0))
theorem Block.lt {W : World} {B : Nat} {t : TypeId} {cs : Array Value} (h : Block W B t cs) : B < W.heap.size := (Array.getElem?_eq_some_iff.1 h).1
theorem Block.cell {W : World} {B : Nat} {t : TypeId} {cs : Array Value} (h : Block W B t cs) (i : Nat) : W.cell? ⟨B, i, none⟩ = cs[i]? := by simp [World.cell?, show W.heap[B]? = _ from h]
theorem Block.frozen {W : World} {B : Nat} {t : TypeId} {cs : Array Value} (h : Block W B t cs) (i : Nat) : W.frozen? ⟨B, i, none⟩ = false := by simp [World.frozen?, show W.heap[B]? = _ from h]
theorem Block.new (W : World) (t : TypeId) (cs : Array Value) : Block (W.alloc (.cells cs t)) W.heap.size t cs := World.alloc_heap_new W _
theorem Block.own (B : Nat) (t : TypeId) (cs : Array Value) {β : Type} : Go.Own (fun (_ : β) W => Block W B t cs) := fun s X Y row hs hg hrow => (hg.block B hs.lt (fun e' => by obtain ⟨o, ho, hc⟩ := hrow B e'.symm; rw [show X.heap[B]? = _ from hs] at ho; cases ho; cases hc)).trans hs

theorem own_succ {α : Type} {base : Nat} {w : World} {E k : Nat} {enc : α → List Value} {v : Value} {xs : List α} {x : α} (h : Own base w E k enc v (xs ++ [x])) : ∃ g cap, v = .slice (some ⟨g, 0, none⟩) (xs.length + 1) cap :=
  by have h' := h; unfold Own at h'; rw [List.length_append] at h'; exact ownsRow_succ h'
/-- Behind 'out = append(out, x)' where out is a box: the two boxes beside it, what it owns, and all else are as they were. -/
theorem grow_box {α : Type} {W w4 : World} {n0 B B0 B1 : Nat} {T T1 E k : Nat} {enc : α → List Value} {v v' u0 u1 : Value} {xs ys : List α} {tmp : Obj} (hv : Boxed W B T v) (q0 : Boxed W B0 T u0) (q1 : Boxed W B1 T1 u1) (ho : Own n0 W E k enc v xs) (hown : Own n0 w4 E k enc v' ys) (hg : (W.alloc tmp).grownBy w4 v.ownBlock)
    (hS : n0 ≤ W.heap.size) (hB : B < n0) (hB0 : B0 < n0) (hB1 : B1 < n0) (hn0 : B0 < B) (hn1 : B1 < B) :
    Boxed w4 B T v ∧ KeepsOthers W (w4.setCell ⟨B, 0, none⟩ v') ∧ Kept n0 B W (w4.setCell ⟨B, 0, none⟩ v') ∧ Boxed (w4.setCell ⟨B, 0, none⟩ v') B T v' ∧ Own n0 (w4.setCell ⟨B, 0, none⟩ v') E k enc v' ys ∧ (Boxed (w4.setCell ⟨B, 0, none⟩ v') B0 T u0 ∧ Boxed (w4.setCell ⟨B, 0, none⟩ v') B1 T1 u1) ∧ Below B W (w4.setCell ⟨B, 0, none⟩ v') := by
  have hb4 : Below n0 W w4 := ((Below.refl _ W).alloc hS tmp).grown hg (by simp; omega) (fun j ej => (World.ownsRow.lt ho j ej).1)
  have hv4 : Boxed w4 B T v := (hb4.block B hB).trans hv
  refine ⟨hv4, ?_, (Kept.of_below hb4 (Nat.le_refl _)).trans ⟨by simp [World.setCell], fun k hk hx => Below.heap_setCell w4 _ _ k hx⟩, hv4.set v', ?_, ⟨Boxed.other ((hb4.block B0 hB0).trans q0) (by omega) _, Boxed.other ((hb4.block B1 hB1).trans q1) (by omega) _⟩, (hb4.mono (Nat.le_of_lt hB)).setCell (p := ⟨B, 0, none⟩) (Nat.le_refl _) _⟩
  · refine ((KeepsOthers.alloc W tmp).trans (KeepsOthers.of_grownBy hg fun j o ej hj => ?_)).trans (KeepsOthers.setCell _ _ _)
    rcases (World.ownsRow.alloc ho tmp).2 with ⟨rfl, _⟩ | ⟨g, cap, cur, rfl, _, hgb, _⟩
    · simp [Value.ownBlock] at ej
    · obtain rfl : g = j := by simpa [Value.ownBlock] using ej
      rw [hgb] at hj; cases hj; rfl
  · refine World.ownsRow.kept hown (grownBy_setCell' w4 B v') (.inr fun e' => ?_)
    have := (World.ownsRow.lt hown B e').1
    omega

set_option maxRecDepth 100000 in
set_option maxHeartbeats 4000000 in
theorem Points_poly (n : Int) (p : Option Addr) (c : Nat) (l : List Iq) (w : World) (hd : domB n l = true) (hm : (ptsOf n l).length ≤ 1000) (hr : Row w.heap.size w p 4 Iq.enc l) :
    Calls Try.prog 47 #[.agg #[.int .i64 n, .slice p l.length c]] w fun e w' => ∃ q cap, e = .returned (.tuple #[.slice q (ptsOf n l).length cap, .int .i64 0]) ∧ Row w'.heap.size w' q 3 P3.enc (ptsOf n l) ∧ Below w.heap.size w w' := by
  obtain ⟨i0, hinf, zz0, zz1, zz2⟩ := info_parts infoPt
  obtain ⟨W0, hW0⟩ : ∃ W0, W0 = ((w.alloc (.cells #[.int .i64 n, .slice p l.length c] 24)).alloc (.cells #[.slice none 0 0] 49)).alloc (.cells #[.int .i64 0] 33) := ⟨_, rfl⟩
  have hb0 : Below w.heap.size w W0 := by rw [hW0]; go_grown
  have hrow0 := (hr.below hb0 (Nat.le_refl _)).mono hb0.size
  obtain ⟨hn, hl6, hq⟩ := domB_n hd
  have hval := Valid_poly n p c l _ (by omega) hrow0
  rw [hd] at hval
  rw [hW0] at hval
  have Hval := Lib.hid hval
  clear hval hd
  refine (callsIn_wide (n := 5)).1 ?_
  refine callsIn_of_wp_marks Try.func47 rfl trivial ?_ rfl
  simp only [Try.ntmps47, List.size_toArray, List.length_cons, List.length_nil, Nat.reduceAdd, Nat.reduceSub, Array.replicate_succ, Array.replicate_zero, List.push_toArray, List.append_toArray, List.nil_append, List.cons_append]
  gi_wp2_with fail
  refine ⟨trivial, (callsIn_wide.2 Hval.out).mono ?_⟩
  rintro e w1 ⟨rfl, hb⟩
  rw [← hW0] at hb
  have hsz0 : W0.heap.size = w.heap.size + 3 := by rw [hW0]; simp
  have hB1 : Below w.heap.size w w1 := via hb0 hb
  have d0 : w1.cell? ⟨w.heap.size, 0, none⟩ = some (.int .i64 n) := (hb.cell (p := ⟨w.heap.size, 0, none⟩) (by simp; omega)).trans (by rw [hW0]; simp [go_sem])
  have d1 : w1.cell? ⟨w.heap.size, 1, none⟩ = some (.slice p l.length c) := (hb.cell (p := ⟨w.heap.size, 1, none⟩) (by simp; omega)).trans (by rw [hW0]; simp [go_sem])
  have r0 : Boxed w1 (w.heap.size + 1) 49 (.slice none 0 0) := (hb.block (w.heap.size + 1) (by omega)).trans (by rw [hW0]; have h := (Boxed.new (w.alloc (.cells #[.int .i64 n, .slice p l.length c] 24)) 49 (.slice none 0 0)).alloc (.cells #[.int .i64 0] 33); rw [World.size_alloc] at h; exact h)
  have r1 : Boxed w1 (w.heap.size + 1 + 1) 33 (.int .i64 0) := (hb.block (w.heap.size + 1 + 1) (by omega)).trans (by rw [hW0]; have h := Boxed.new ((w.alloc (.cells #[.int .i64 n, .slice p l.length c] 24)).alloc (.cells #[.slice none 0 0] 49)) 33 (.int .i64 0); rw [World.size_alloc, World.size_alloc] at h; exact h)
  have hlt : w.heap.size + 1 + 1 < w1.heap.size := by have := hb.size; omega
  have hlt' : w.heap.size < w1.heap.size := by omega
  have hlt1 : w.heap.size ≤ w1.heap.size := by omega
  have hrow1 := hr.below hB1 (Nat.le_refl _)
  clear hb hrow0 Hval hr hW0
  gi_wp2_with fail
  refine ⟨trivial, (callsIn_wide.2 (points_poly n p c l _ hn)).mono ?_⟩
  rintro e w2 ⟨rfl, hb, hsz, m0, m1, m2, e0, e1⟩
  rw [World.size_alloc] at hb hsz m0 m1 m2 e0 e1 ⊢
  have bN : Boxed w2 w1.heap.size 49 (.slice none 0 0) := (hb.block w1.heap.size (by omega)).trans (Boxed.new w1 49 (.slice none 0 0))
  have r0' : Boxed w2 (w.heap.size + 1) 49 (.slice none 0 0) := (hb.block (w.heap.size + 1) (by omega)).trans (r0.alloc _)
  have r1' : Boxed w2 (w.heap.size + 1 + 1) 33 (.int .i64 0) := (hb.block (w.heap.size + 1 + 1) (by omega)).trans (r1.alloc _)
  have hB2 : Below w.heap.size w w2 := (hB1.trans ((Below.refl _ w1).alloc hB1.size _)).trans (hb.mono (by have := hB1.size; omega))
  have hrow2 := (hrow1.below ((Below.refl w1.heap.size w1).alloc (Nat.le_refl _) _) hB1.size).below hb (by omega)
  clear hb r0 r1 d0 d1
  gi_wp2_with fail
  refine wpIn_rangeFunc_ownH rfl (by decide) (gf := 101) (lb := #[.pointer (some ⟨w1.heap.size + 1 + 1, 0, none⟩), .pointer (some ⟨w1.heap.size + 1, 0, none⟩)]) rfl trivial (enters_of Try.func101 (by kernel_rfl) rfl)
    (points_stops 4 (by decide) n p c l hl6 hq w2.heap.size w1.heap.size w.heap.size w2 (w1.heap.size + 1 + 1) (w1.heap.size + 1) (by omega) (by omega) (by omega) (by omega) (by omega) (by omega) (Nat.le_refl _) m0 m1 m2 e0 e1 hrow2) Kept.trans
    (fun W l o o' hl h _ _ => ⟨by simp [World.putObj], fun k hk _ => (grownBy_putObj' W l o').block k (by have := (Array.getElem?_eq_some_iff.1 h).1; omega) (by intro e; cases e; omega)⟩) (Below.refl _ _) (fun _ => rfl)
    (fun pre W => ((∃ v, Boxed W w1.heap.size 49 v ∧ Own w2.heap.size W 29 3 P3.enc v pre) ∧ (Boxed W (w.heap.size + 1) 49 (.slice none 0 0) ∧ Boxed W (w.heap.size + 1 + 1) 33 (.int .i64 0))) ∧ (Below w.heap.size w W ∧ w2.heap.size ≤ W.heap.size)) (fun _ _ _ => False)
    (OwnFrom.and (OwnFrom.and (Own.from (fun s X Y row hs hg hrow => by
      obtain ⟨v, hv, ho⟩ := hs
      have hkb : ∀ {B : Nat} {t : TypeId} {u : Value}, Boxed X B t u → some B ≠ row := fun {B} _ _ hB e' => by
        obtain ⟨o, ho, hc⟩ := hrow B e'.symm; rw [show X.heap[B]? = _ from hB] at ho; cases ho; cases hc
      refine ⟨v, hv.kept hg (hkb hv), ?_⟩
      refine World.ownsRow.kept ho hg ?_
      rcases ho.2 with ⟨rfl, _⟩ | ⟨g, cap, cur, rfl, _, hg', _⟩
      · exact .inl rfl
      · refine .inr (fun e' => ?_)
        obtain ⟨o, ho, hc⟩ := hrow g e'.symm; rw [hg'] at ho; cases ho; cases hc) _) (Own.from (fun s X Y row hs hg hrow => by
      have hkb : ∀ {B : Nat} {t : TypeId} {u : Value}, Boxed X B t u → some B ≠ row := fun {B} _ _ hB e' => by
        obtain ⟨o, ho, hc⟩ := hrow B e'.symm; rw [show X.heap[B]? = _ from hB] at ho; cases ho; cases hc
      exact ⟨hs.1.kept hg (hkb hs.1), hs.2.kept hg (hkb hs.2)⟩) _)) (OwnFrom.and (ownFrom_below (Nat.le_refl _) (by omega)) (fun _ _ _ _ hs hg _ => Nat.le_trans hs hg.size)))
    (fun _ _ _ _ _ hs _ _ => hs) ⟨⟨⟨_, bN, Own.nil _ _ _ _ _⟩, r0', r1'⟩, hB2, Nat.le_refl _⟩
    (fun x a' W => ∃ Bx, w2.heap.size ≤ Bx ∧ Block W Bx 29 #[.int .i64 x.x, .int .i64 x.y, .int .i64 x.z] ∧ a' = { tmps := #[.agg #[.int .i64 n, .slice p l.length c], .pointer (some ⟨w.heap.size, 0, none⟩), .pointer (some ⟨w.heap.size + 1, 0, none⟩), .pointer (some ⟨w.heap.size + 1 + 1, 0, none⟩), .pointer (some ⟨w1.heap.size, 0, none⟩), .pointer (some ⟨Bx, 0, none⟩), .agg #[.int .i64 n, .slice p l.length c], .bool true, .bool false, .agg #[.int .i64 n, .slice p l.length c], .func (.func 101) #[] #[.pointer (some ⟨w1.heap.size + 1 + 1, 0, none⟩), .pointer (some ⟨w1.heap.size + 1, 0, none⟩)], .agg #[.int .i64 x.x, .int .i64 x.y, .int .i64 x.z], undef, undef, undef, undef, undef, undef, undef, undef], defers := [] })
    (fun x a' => Own.from (fun s X Y row hs hg hrow => by
      obtain ⟨Bx, h1, h2, h3⟩ := hs
      exact ⟨Bx, h1, Block.own Bx 29 _ s X Y row h2 hg hrow, h3⟩) _) ?assign ?body ?done ?stop
  case assign =>
    rintro l pre x W K ⟨⟨⟨v, hv, ho⟩, q0, q1⟩, hB, hS⟩ hK
    gi_wp2
    exact hK _ _ ((KeepsOthers.alloc _ _).from _) (Kept.of_below ((Below.refl W.heap.size W).alloc (Nat.le_refl _) _) hS) ⟨⟨⟨v, hv.alloc _, ho.alloc _⟩, q0.alloc _, q1.alloc _⟩, hB.alloc hB.size _, by simp; omega⟩ ⟨W.heap.size, hS, Block.new _ _ _, rfl⟩
  case body =>
    rintro l pre x a' W hl ⟨r, hr⟩ ⟨⟨⟨v, hv, ho⟩, q0, q1⟩, hB, hS⟩ ⟨Bx, hBx, bX, rfl⟩ hlt3
    obtain ⟨q, cap, rfl, hrow⟩ := ho.row (fun _ => rfl)
    have hc := hv.cell
    have x0 := bX.cell 0
    have x1 := bX.cell 1
    have x2 := bX.cell 2
    simp at x0 x1 x2
    have hne : ((pre.length : Int) == 1000) = false := by rw [beq_eq_false_iff_ne]; omega
    clear hrow
    gi_wp2_with (gi_at_builtin; refine wpListIn_own rfl _ _ 49 rfl i0 _ 24 Try.underlying49 hinf zz0 zz1 zz2 rfl (by decide) rfl (ho.alloc _) x rfl (by simp [P3.enc, Value.oneCell']) W.heap.size rfl new_cells ⟨by omega, by unfold maxLen; omega⟩ (by simp; omega) ?_; intro v' w4 hown' hg4; obtain ⟨g', cap', rfl⟩ := own_succ hown'; obtain ⟨hv4, k1, k2, k3, k4, k5, k6⟩ := grow_box hv q0 q1 ho hown' hg4 hS (by omega) (by omega) (by omega) (by omega) (by omega); have hc4 := hv4.cell; have hf4 := hv4.frozen)
    exact ⟨k1.from _, k2, ⟨⟨⟨_, k3, k4⟩, k5.1, k5.2⟩, hB.trans (k6.mono hlt1), Nat.le_trans hS k2.size⟩⟩
  case done =>
    rintro D ys W hD rfl ⟨⟨⟨v, hv, ho⟩, q0, q1⟩, hB, hS⟩ hK
    obtain ⟨q, cap, rfl, hrow⟩ := ho.row (fun _ => rfl)
    have hc := hv.cell
    have c0 := q0.cell
    have c1 := q1.cell
    have g0 := q0.frozen
    have g1 := q1.frozen
    have Hrow := Lib.hid hrow
    clear hrow
    gi_wp2
    obtain ⟨W2, hW2⟩ : ∃ W2, W2 = (W.setCell ⟨w.heap.size + 1, 0, none⟩ (.slice q (ptsOf n l).length cap)).setCell ⟨w.heap.size + 1 + 1, 0, none⟩ (.int .i64 0) := ⟨_, rfl⟩
    have hK2 : W2.heap[D]? = some (.deferred (some [])) := by rw [hW2]; exact (Below.heap_setCell _ _ _ D (by simp; omega)).trans ((Below.heap_setCell _ _ _ D (by simp; omega)).trans hK)
    have v0 : Boxed W2 (w.heap.size + 1) 49 (.slice q (ptsOf n l).length cap) := by rw [hW2]; exact Boxed.other (q0.set _) (by omega) _
    have v1 : Boxed W2 (w.heap.size + 1 + 1) 33 (.int .i64 0) := by rw [hW2]; exact Boxed.set _ (q1.other (by omega) _)
    have hBW2 : Below w.heap.size w W2 := by rw [hW2]; exact (hB.setCell (p := ⟨w.heap.size + 1, 0, none⟩) (by simp) _).setCell (p := ⟨w.heap.size + 1 + 1, 0, none⟩) (by simp; omega) _
    have ho2 : Own w2.heap.size W2 29 3 P3.enc (.slice q (ptsOf n l).length cap) (ptsOf n l) := by
      have hne : ∀ j, (Value.slice q (ptsOf n l).length cap).ownBlock = some j → w2.heap.size ≤ j := fun j e => (World.ownsRow.lt ho j e).1
      have h1 : (W.setCell ⟨w.heap.size + 1, 0, none⟩ (.slice q (ptsOf n l).length cap)).ownsRow w2.heap.size 29 3 (.slice q (ptsOf n l).length cap) (ptsOf n l).length ((ptsOf n l).flatMap P3.enc) := World.ownsRow.kept ho (grownBy_setCell' W (w.heap.size + 1) _) (.inr fun e => by have := hne _ e; omega)
      rw [hW2]
      exact World.ownsRow.kept h1 (grownBy_setCell' _ (w.heap.size + 1 + 1) _) (.inr fun e => by have := hne _ e; omega)
    rw [← hW2]
    clear Hrow
    refine ⟨by simp, .inl ⟨_, _, rfl, run_takeDeferred hK2, ?_⟩⟩
    have hc5 := cell_kept v0.cell (grownBy_putObj' W2 D (.deferred none)) (fun r e => by cases e; exact ⟨_, hK2, rfl⟩)
    have hc6 := cell_kept v1.cell (grownBy_putObj' W2 D (.deferred none)) (fun r e => by cases e; exact ⟨_, hK2, rfl⟩)
    obtain ⟨q', cap', hqq, hrow⟩ := Own.row (show Own w2.heap.size (W2.putObj D (.deferred none)) 29 3 P3.enc (.slice q (ptsOf n l).length cap) (ptsOf n l) from ownsRow_putObj ho2 _ hK2 rfl) (fun _ => rfl)
    refine ⟨.tuple #[.slice q (ptsOf n l).length cap, .int .i64 0], ?_, q, cap, rfl, ?_, hBW2.trans (belowK_b (w := w) (Nat.le_refl _) W2 D _ _ (by omega) hK2 rfl rfl)⟩
    · simp [results, Try.f47, go_sem, hc5, hc6]
    · cases hqq
      exact hrow
  case stop =>
    rintro D c pre W _ _ h _
    exact h.elim
end Go.Proofs.Ytaimeemdmklmbaa
