/- The iterator over the points of a domain. -/
import Derived.Test.YtaimeemdmklmbaaPts
import Derived.RangeFuncNested
import Derived.RangeFuncBound
import Derived.RangeFuncCalls
import Derived.RangeFuncLeaves
import Derived.RangeFuncBox
import Derived.Shelf.RegionOpen
import Derived.OwnWalkIn
import Derived.TacticsInMore
import Derived.LoopNIn
import Derived.LoopIn
set_option linter.all false
namespace Go.Proofs.Ytaimeemdmklmbaa
open Go.RowKit Go.Shelf
attribute [local go_sem] Oper.semAt_some

/-- 'out = append(out, y)' at a slice that is owned: for the walk inside a fence. -/
theorem wpListIn_own {α : Type} {base : Nat} {w : World} {E k : Nat} {enc : α → List Value} {v : Value} {xs : List α} {F : Fence} {n : Nat} {P : Program} {ops : Array Oper} {rest : List Oper} {o : Oper} {a : Act} {Q : Exit → Act → World → Prop} (hgd : o.guard = none) (s x : Operand) (t : TypeId)
    (ho : o.op = .call { callee := .builtin .append, args := #[s, x], argTypes := #[t, t] }) (i : TypeInfo) (z : Value) (bytes : Nat) (ht : P.underlying t = some (.slice E)) (hi : P.info? E = some i) (hz : i.zero = some z)
    (hsize : i.size = k) (hby : i.bytes = bytes) (hzs : z.cells.size = k) (hsz : 0 < k) (hs : a.eval s = v) (hown : Own base w E k enc v xs) (y : α) (hk : (enc y).length = k) (h1 : ∀ u ∈ enc y, u.oneCell' = true)
    (A : Nat) (hx : a.eval x = .slice (some ⟨A, 0, none⟩) 1 1) (hA : ∀ j u, (enc y)[j]? = some u → w.cell? ⟨A, j, none⟩ = some u) (hlen : (xs.length + 1) * bytes ≤ 140737488355328 ∧ xs.length + 1 ≤ maxLen) (hbase : base ≤ w.heap.size)
    (h : ∀ v' w', Own base w' E k enc v' (xs ++ [y]) → w.grownBy w' v.ownBlock → wpListIn F n P ops Q rest (a.put o.dst v') w') : wpListIn F n P ops Q (o :: rest) a w :=
  wpListIn_append_own w hgd s x t ho base E i z k bytes ht hi hz hsize hby hzs hsz v xs.length (xs.flatMap enc) hs hown ⟨A, 0, none⟩ 1 1 (enc y) hx (by rw [hk, Nat.one_mul])
    (fun j u hj => by
      have : (⟨A, 0, none⟩ : Addr).add j = ⟨A, j, none⟩ := by unfold Addr.add; split <;> simp_all
      rw [this]; exact hA j u hj) h1 hlen.2 hlen.1 hbase fun v' w' h2 h3 _ => h v' w' (by unfold Own; simpa [List.flatMap_append] using h2) h3
/-- What lay below n0 lies as it lay, but for block X. -/
structure Kept (n0 X : Nat) (w w' : World) : Prop where
  size : w.heap.size ≤ w'.heap.size
  block : ∀ k, k < n0 → k ≠ X → w'.heap[k]? = w.heap[k]?
theorem Kept.refl (n0 X : Nat) (w : World) : Kept n0 X w w := ⟨Nat.le_refl _, fun _ _ _ => rfl⟩
theorem Kept.trans {n0 X : Nat} {a b c : World} (h : Kept n0 X a b) (k : Kept n0 X b c) : Kept n0 X a c := ⟨Nat.le_trans h.size k.size, fun i hi hx => (k.block i hi hx).trans (h.block i hi hx)⟩
theorem Kept.of_below {n n0 X : Nat} {a b : World} (h : Below n a b) (hn : n0 ≤ n) : Kept n0 X a b := ⟨h.size, fun i hi _ => h.block i (Nat.lt_of_lt_of_le hi hn)⟩
theorem Kept.cell {n0 X : Nat} {w w' : World} (h : Kept n0 X w w') {p : Addr} (hp : p.block < n0) (hx : p.block ≠ X) : w'.cell? p = w.cell? p := World.cell?_of_block (w := w) (h.block p.block hp hx)
theorem Row.kept {α : Type} [Inhabited α] {B n0 X : Nat} {w w' : World} {p : Option Addr} {k : Nat} {enc : α → List Value} {xs : List α} (h : Row B w p k enc xs) (hb : Kept n0 X w w') (hn : B ≤ n0) (hx : B ≤ X) : Row B w' p k enc xs := fun hne => by
  obtain ⟨b, off, hp, hbB, hc⟩ := h hne
  exact ⟨b, off, hp, hbB, fun i hi j hj => (hb.cell (p := ⟨b, off + i * k + j, none⟩) (Nat.lt_of_lt_of_le hbB hn) (by simp; omega)).trans (hc i hi j hj)⟩

theorem lineOf_pre (n : Int) (l : List Iq) (x y : Int) (zs : List Int) (k : Nat) : lineOf n l x y (zs.take k) <+: lineOf n l x y zs :=
  ⟨lineOf n l x y (zs.drop k), by unfold lineOf; rw [← List.filter_append, ← List.map_append, List.take_append_drop]⟩
theorem planeOf_pre (n : Int) (l : List Iq) (x : Int) (ys : List Int) (k : Nat) : planeOf n l x (ys.take k) <+: planeOf n l x ys :=
  ⟨planeOf n l x (ys.drop k), by unfold planeOf; rw [← List.flatMap_append, List.take_append_drop]⟩
theorem boxOf_pre (n : Int) (l : List Iq) (xs : List Int) (k : Nat) : boxOf n l (xs.take k) <+: boxOf n l xs :=
  ⟨boxOf n l (xs.drop k), by unfold boxOf; rw [← List.flatMap_append, List.take_append_drop]⟩
/-- What has come in the midst of a line is a prefix of all points. -/
theorem pts_pre (n : Int) (l : List Iq) (i j k : Nat) (hi : i < 2 * farN n 0 + 1) (hj : j < 2 * farN n 1 + 1) :
    (boxOf n l ((span (farN n 0)).take i) ++ planeOf n l ((i : Int) - farN n 0) ((span (farN n 1)).take j)) ++ lineOf n l ((i : Int) - farN n 0) ((j : Int) - farN n 1) ((span (farN n 2)).take k) <+: ptsOf n l := by
  refine List.IsPrefix.trans ((List.prefix_append_right_inj _).2 (lineOf_pre n l _ _ _ k)) ?_
  rw [List.append_assoc, ← planeOf_snoc, ← span_take_succ _ _ hj]
  refine List.IsPrefix.trans ((List.prefix_append_right_inj _).2 (planeOf_pre n l _ _ _)) ?_
  rw [← boxOf_snoc, ← span_take_succ _ _ hi]
  exact boxOf_pre n l _ _

set_option maxHeartbeats 4000000 in
set_option maxRecDepth 100000 in
theorem points1_in (k n0 X B0 : Nat) (hk : 1 ≤ k) (l0 Bm Bd : Nat) (n : Int) (p : Option Addr) (c : Nat) (l : List Iq) (hl : l.length ≤ 6) (hq : l.all (iqB n) = true) (J Jx : List P3 → World → Prop)
    (W : World) (hJ : AbidesFrom W.heap.size J)
    (hY : ∀ pre x W1, J pre W1 → pre.length < (ptsOf n l).length → YieldAt Fence.wide (k - 1) Try.prog l0 #[.agg #[.int .i64 x.x, .int .i64 x.y, .int .i64 x.z]] W1 fun e W' =>
      (e = .returned (.bool true) ∧ J (pre ++ [x]) W' ∧ Kept n0 X W1 W') ∨ (e = .returned (.bool false) ∧ Jx (pre ++ [x]) W'))
    (hBm : Bm < n0) (hBd : Bd < n0) (hXm : Bm ≠ X) (hXd : Bd ≠ X) (hB0 : B0 ≤ n0) (hBX : B0 ≤ X) (hm0 : W.cell? ⟨Bm, 0, none⟩ = some (.int .i64 (farN n 0))) (hm1 : W.cell? ⟨Bm, 1, none⟩ = some (.int .i64 (farN n 1))) (hm2 : W.cell? ⟨Bm, 2, none⟩ = some (.int .i64 (farN n 2)))
    (hd0 : W.cell? ⟨Bd, 0, none⟩ = some (.int .i64 n)) (hd1 : W.cell? ⟨Bd, 1, none⟩ = some (.slice p l.length c)) (hr : Row B0 W p 4 Iq.enc l) (hn0 : n0 ≤ W.heap.size) (h0 : J [] W) :
    CallsIn Fence.wide k Try.prog 101 #[.func (.yield l0) #[] #[], .pointer (some ⟨Bm, 0, none⟩), .pointer (some ⟨Bd, 0, none⟩)] W fun e W' => (∃ v, e = .returned v) ∧ ((∃ xs, xs = ptsOf n l ∧ J xs W') ∨ (∃ pre, pre <+: ptsOf n l ∧ Jx pre W')) := by
  refine callsIn_of_wp Try.func101 rfl trivial ?_ rfl
  simp only [Try.ntmps101, List.size_toArray, List.length_cons, List.length_nil, Nat.reduceAdd, Nat.reduceSub, Array.replicate_succ, Array.replicate_zero, List.push_toArray, List.append_toArray, List.nil_append, List.cons_append]
  have f0 := farN_le n 0
  have f1 := farN_le n 1
  have f2 := farN_le n 2
  have HJ := Lib.hid hJ
  have HY := Lib.hid hY
  have Hr := Lib.hid hr
  have Hq := Lib.hid hq
  clear hJ hY hr hq
  gi_wp2
  gi_loopw [4] (fun x wr => ∃ i : Nat, i ≤ 2 * farN n 0 + 1 ∧ x = .int .i64 ((i : Int) - (farN n 0 : Int)) ∧ J (boxOf n l ((span (farN n 0)).take i)) wr ∧ Kept n0 X W wr)
    (fun x _ => ((farN n 0 : Int) + 1 - intOf x).toNat)
  case atStart => exact ⟨0, by omega, by simp, by simpa [boxOf] using h0, Kept.refl _ _ _⟩
  case round =>
    obtain ⟨i, hi1, rfl, hj, hB⟩ := hrel
    have c0 : wr.cell? ⟨Bm, 0, none⟩ = some (.int .i64 (farN n 0)) := (hB.cell (p := ⟨Bm, 0, none⟩) hBm hXm).trans hm0
    have c1 : wr.cell? ⟨Bm, 1, none⟩ = some (.int .i64 (farN n 1)) := (hB.cell (p := ⟨Bm, 1, none⟩) hBm hXm).trans hm1
    by_cases hlt : i < 2 * farN n 0 + 1
    · have hx1 : -(farN n 0 : Int) ≤ (i : Int) - farN n 0 ∧ (i : Int) - farN n 0 ≤ farN n 0 := by omega
      have hst := span_take_succ (farN n 0) i hlt
      have Hst := Lib.hid hst
      clear hst
      generalize hA : boxOf n l ((span (farN n 0)).take i) = A at *
      have HA := Lib.hid hA
      clear hA
      gi_wp2
      gi_loopw [5] (fun y wr => ∃ j : Nat, j ≤ 2 * farN n 1 + 1 ∧ y = .int .i64 ((j : Int) - (farN n 1 : Int)) ∧ J (A ++ planeOf n l ((i : Int) - farN n 0) ((span (farN n 1)).take j)) wr ∧ Kept n0 X W wr)
        (fun y _ => ((farN n 1 : Int) + 1 - intOf y).toNat)
      case atStart => exact ⟨0, by omega, by simp, by simpa [planeOf] using hj, hB⟩
      case round =>
        clear hj hB c0 c1
        obtain ⟨j, hj1, rfl, hj, hB⟩ := hrel
        have c1 : wr.cell? ⟨Bm, 1, none⟩ = some (.int .i64 (farN n 1)) := (hB.cell (p := ⟨Bm, 1, none⟩) hBm hXm).trans hm1
        have c2 : wr.cell? ⟨Bm, 2, none⟩ = some (.int .i64 (farN n 2)) := (hB.cell (p := ⟨Bm, 2, none⟩) hBm hXm).trans hm2
        by_cases hlt2 : j < 2 * farN n 1 + 1
        · have hy1 : -(farN n 1 : Int) ≤ (j : Int) - farN n 1 ∧ (j : Int) - farN n 1 ≤ farN n 1 := by omega
          have hst := span_take_succ (farN n 1) j hlt2
          have Hst2 := Lib.hid hst
          clear hst
          generalize hA2 : A ++ planeOf n l ((i : Int) - farN n 0) ((span (farN n 1)).take j) = A2 at *
          have HA2 := Lib.hid hA2
          clear hA2
          gi_wp2
          gi_loopw [6] (fun z wr => ∃ k : Nat, k ≤ 2 * farN n 2 + 1 ∧ z = .int .i64 ((k : Int) - (farN n 2 : Int)) ∧ J (A2 ++ lineOf n l ((i : Int) - farN n 0) ((j : Int) - farN n 1) ((span (farN n 2)).take k)) wr ∧ Kept n0 X W wr)
            (fun z _ => ((farN n 2 : Int) + 1 - intOf z).toNat)
          case atStart => exact ⟨0, by omega, by simp, by simpa [lineOf] using hj, hB⟩
          case round =>
            clear hj hB c1 c2
            obtain ⟨m, hm1', rfl, hj, hB⟩ := hrel
            have c2 : wr.cell? ⟨Bm, 2, none⟩ = some (.int .i64 (farN n 2)) := (hB.cell (p := ⟨Bm, 2, none⟩) hBm hXm).trans hm2
            have e0 : wr.cell? ⟨Bd, 0, none⟩ = some (.int .i64 n) := (hB.cell (p := ⟨Bd, 0, none⟩) hBd hXd).trans hd0
            have e1 : wr.cell? ⟨Bd, 1, none⟩ = some (.slice p l.length c) := (hB.cell (p := ⟨Bd, 1, none⟩) hBd hXd).trans hd1
            have hsz : Bd < wr.heap.size := by have := hB.size; omega
            by_cases hlt3 : m < 2 * farN n 2 + 1
            · have hz1 : -(farN n 2 : Int) ≤ (m : Int) - farN n 2 ∧ (m : Int) - farN n 2 ≤ farN n 2 := by omega
              have hst := span_take_succ (farN n 2) m hlt3
              have Hst3 := Lib.hid hst
              have hpre := pts_pre n l i j (m + 1) hlt hlt2
              rw [HA.out, HA2.out] at hpre
              have hWr : W.heap.size ≤ wr.heap.size := hB.size
              have hk2 : Below wr.heap.size wr (wr.alloc (.cells #[.int .i64 ((i : Int) - (farN n 0 : Int)), .int .i64 ((j : Int) - (farN n 1 : Int)), .int .i64 ((m : Int) - (farN n 2 : Int))] 29)) := by go_grown
              have hrow := ((Hr.out.kept hB hB0 hBX).below hk2 (by omega)).mono (show B0 ≤ (wr.alloc (.cells #[.int .i64 ((i : Int) - (farN n 0 : Int)), .int .i64 ((j : Int) - (farN n 1 : Int)), .int .i64 ((m : Int) - (farN n 2 : Int))] 29)).heap.size by simp; omega)
              have hcall := holds_poly p c l ⟨(i : Int) - farN n 0, (j : Int) - farN n 1, (m : Int) - farN n 2⟩ n _ hl Hq.out (by unfold bd3; simp only; omega) hrow
              have Hcall := Lib.hid hcall
              clear hcall hrow hst
              cases hsat : l.all (satB ⟨(i : Int) - farN n 0, (j : Int) - farN n 1, (m : Int) - farN n 2⟩)
              · have hline : lineOf n l ((i : Int) - farN n 0) ((j : Int) - farN n 1) ((span (farN n 2)).take (m + 1)) = lineOf n l ((i : Int) - farN n 0) ((j : Int) - farN n 1) ((span (farN n 2)).take m) := by
                  rw [Hst3.out, lineOf_snoc, hsat]; simp
                have Hline := Lib.hid hline
                have Hsat := Lib.hid hsat
                clear hline hsat hpre
                gi_wp2_with fail
                refine ⟨trivial, (callsIn_wide.2 Hcall.out).mono ?_⟩
                rintro e w3 ⟨rfl, hb⟩
                rw [Hsat.out]
                have hB3 : Kept n0 X W w3 := (hB.trans (Kept.of_below hk2 (by omega))).trans (Kept.of_below hb (by simp; omega))
                have hj3 := HJ.out _ _ _ none (HJ.out _ _ _ none hj (grown_of_below hk2 (Nat.le_refl _)) (by simp)) (grown_of_below hb (Nat.le_refl _)) (by simp)
                clear hb hk2 hj hB c2 e0 e1
                gi_wp2
                refine ⟨fun _ h => (by cases h), ?_⟩
                gi_wp2
                go_roundw
                case rel => exact ⟨m + 1, by omega, by go_num, by rw [Hline.out]; exact hj3, hB3⟩
                case measure => simp [intOf]; omega
              · have hline : lineOf n l ((i : Int) - farN n 0) ((j : Int) - farN n 1) ((span (farN n 2)).take (m + 1)) = lineOf n l ((i : Int) - farN n 0) ((j : Int) - farN n 1) ((span (farN n 2)).take m) ++ [⟨(i : Int) - farN n 0, (j : Int) - farN n 1, (m : Int) - farN n 2⟩] := by
                  rw [Hst3.out, lineOf_snoc, hsat]; rfl
                rw [hline, ← List.append_assoc] at hpre
                have Hline := Lib.hid hline
                have Hsat := Lib.hid hsat
                have Hpre := Lib.hid hpre
                have hlen := hpre.length_le
                clear hline hsat hpre
                gi_wp2_with fail
                refine ⟨trivial, (callsIn_wide.2 Hcall.out).mono ?_⟩
                rintro e w3 ⟨rfl, hb⟩
                rw [Hsat.out]
                have hB3 : Kept n0 X W w3 := (hB.trans (Kept.of_below hk2 (by omega))).trans (Kept.of_below hb (by simp; omega))
                have hj3 := HJ.out _ _ _ none (HJ.out _ _ _ none hj (grown_of_below hk2 (Nat.le_refl _)) (by simp)) (grown_of_below hb (Nat.le_refl _)) (by simp)
                obtain ⟨fn, tmps, assign, body, hy, hR⟩ := HY.out _ ⟨(i : Int) - farN n 0, (j : Int) - farN n 1, (m : Int) - farN n 2⟩ w3 hj3 (by simp at hlen ⊢; omega)
                dsimp only at hy
                have p0 : w3.cell? ⟨wr.heap.size, 0, none⟩ = some (.int .i64 ((i : Int) - (farN n 0 : Int))) := (hb.cell (p := ⟨wr.heap.size, 0, none⟩) (by simp)).trans (by simp [go_sem])
                have p1 : w3.cell? ⟨wr.heap.size, 1, none⟩ = some (.int .i64 ((j : Int) - (farN n 1 : Int))) := (hb.cell (p := ⟨wr.heap.size, 1, none⟩) (by simp)).trans (by simp [go_sem])
                have p2 : w3.cell? ⟨wr.heap.size, 2, none⟩ = some (.int .i64 ((m : Int) - (farN n 2 : Int))) := (hb.cell (p := ⟨wr.heap.size, 2, none⟩) (by simp)).trans (by simp [go_sem])
                clear hb hk2 hj hB c2 e0 e1 hlen
                gi_wp2
                refine hR.mono ?_
                rintro e W4 (⟨rfl, hj4, hk4⟩ | ⟨rfl, hx4⟩)
                · gi_wp2
                  go_roundw
                  case rel => exact ⟨m + 1, by omega, by go_num, by rw [Hline.out, ← List.append_assoc]; exact hj4, hB3.trans hk4⟩
                  case measure => simp [intOf]; omega
                · gi_wp2
                  refine bodyPost_ret (results_none rfl _ _ _) rfl ?_
                  exact ⟨⟨_, rfl⟩, .inr ⟨_, Hpre.out, hx4⟩⟩
            · obtain rfl : m = 2 * farN n 2 + 1 := by omega
              rw [span_take_all] at hj
              gi_wp2
              go_roundw
              case rel => exact ⟨j + 1, by omega, by go_num, by rw [Hst2.out, planeOf_snoc, ← List.append_assoc, HA2.out]; exact hj, hB⟩
              case measure => simp [intOf]; omega
        · obtain rfl : j = 2 * farN n 1 + 1 := by omega
          rw [span_take_all] at hj
          gi_wp2
          go_roundw
          case rel => exact ⟨i + 1, by omega, by go_num, by rw [Hst.out, boxOf_snoc, HA.out]; exact hj, hB⟩
          case measure => simp [intOf]; omega
    · obtain rfl : i = 2 * farN n 0 + 1 := by omega
      rw [span_take_all] at hj
      gi_wp2
      go_end0
      exact ⟨⟨_, rfl⟩, .inl ⟨_, rfl, hj⟩⟩
end Go.Proofs.Ytaimeemdmklmbaa
