/- What Asked and Move of the reference of layer 4 return. -/
import Derived.Test.YtaimeemdmklmbaaRf4b
import Derived.Test.YtaimeemdmklmbaaSp4
import Derived.Test.YtaimeemdmklmbaaRec5
set_option linter.all false
namespace Go.Proofs.Ytaimeemdmklmbaa
open Go.RowKit Go.Shelf

/-- The opposite of a cell. -/
def negC (c : P2) : P2 := ⟨-c.x, -c.y⟩
theorem cellOf_bd {k : Int} {u p : P3} (hu : bd3 u.x u.y u.z 3) (hp : bd3 p.x p.y p.z 1000) : (-10000 ≤ (cellOf k u p).x ∧ (cellOf k u p).x ≤ 10000) ∧ (-10000 ≤ (cellOf k u p).y ∧ (cellOf k u p).y ≤ 10000) := by
  obtain ⟨h1, h2, h3⟩ := hu
  obtain ⟨h4, h5, h6⟩ := hp
  have a1 := mul_bd h4.1 h4.2 h1.1 h1.2
  have a2 := mul_bd h5.1 h5.2 h2.1 h2.2
  have a3 := mul_bd h6.1 h6.2 h3.1 h3.2
  have b1 := mul_bd a1.1 a1.2 h2.1 h2.2
  have b2 := mul_bd a1.1 a1.2 h3.1 h3.2
  have b3 := mul_bd a2.1 a2.2 h1.1 h1.2
  have b4 := mul_bd a2.1 a2.2 h3.1 h3.2
  have b5 := mul_bd a3.1 a3.2 h1.1 h1.2
  have b6 := mul_bd a3.1 a3.2 h2.1 h2.2
  unfold cellOf
  repeat' split
  all_goals (dsimp only; omega)
theorem axis_bd3 {n : Int} {u : P3} (h : 0 ≤ axisOf n u) : bd3 u.x u.y u.z 3 := by
  have hf := (axisOf_pos h).2.1
  rw [flatB_iff] at hf
  exact ⟨hf.1, hf.2.1, hf.2.2.1⟩

set_option maxHeartbeats 1000000 in
theorem Asked_ref4 (n : Int) (u : P3) (p : Option Addr) (c : Nat) (l : List Iq) (pv : Option Addr) (cv : Nat) (vs : List Vr) (w : World) (hR : RecOf w.heap.size w p l pv vs) :
    Calls Try.prog 24 #[.agg #[.int .i64 n, .slice p l.length c, .slice pv vs.length cv], .agg #[.int .i64 u.x, .int .i64 u.y, .int .i64 u.z]] w fun e w' => e = .returned (.int .i64 (askE n l vs u)) ∧ Below w.heap.size w w' := by
  obtain ⟨W0, hW0⟩ : ∃ W0, W0 = (w.alloc (.cells #[.int .i64 n, .slice p l.length c, .slice pv vs.length cv] 27)).alloc (.cells #[.int .i64 u.x, .int .i64 u.y, .int .i64 u.z] 29) := ⟨_, rfl⟩
  have hb0 : Below w.heap.size w W0 := by rw [hW0]; go_grown
  have k0 : Block W0 w.heap.size 27 #[.int .i64 n, .slice p l.length c, .slice pv vs.length cv] := by rw [hW0]; exact (Block.new _ _ _).alloc _
  have k1 : Block W0 (w.heap.size + 1) 29 #[.int .i64 u.x, .int .i64 u.y, .int .i64 u.z] := by rw [hW0]; exact Block.make _ _ (by simp)
  have hv := Valid_ref2 n p c l pv cv vs W0 (hR.call hb0)
  have HW0 := Lib.hid hW0
  clear hW0 hR
  cases hrec : recB n l vs
  · have he : askE n l vs u = 20 := by unfold askE; rw [hrec]; rfl
    rw [he]
    rw [hrec] at hv
    have Hv := Lib.hid hv
    clear hv he hrec
    go_enter Try.func24, Try.ntmps24
    go_wp2_with fail
    rw [← HW0.out]
    refine Hv.out.mono ?_
    rintro e w1 ⟨rfl, hb⟩
    have hb1 := via hb0 hb
    clear hb hb0 Hv k0 k1
    go_wp2
    go_ret
    exact ⟨rfl, hb1⟩
  · rw [hrec] at hv
    have Hv := Lib.hid hv
    have he : askE n l vs u = if decide (0 ≤ axisOf n u) = true then 0 else 40 := by unfold askE; rw [hrec, if_pos rfl]; simp
    have He := Lib.hid he
    clear hv he hrec
    go_enter Try.func24, Try.ntmps24
    go_wp2_with fail
    rw [← HW0.out]
    refine Hv.out.mono ?_
    rintro e w1 ⟨rfl, hb⟩
    have k0 := k0.call hb
    have k1 := k1.call hb
    have hb1 := via hb0 hb
    have c0 := k0.cell
    have c1 := k1.cell
    clear hb hb0 Hv
    go_wp2_with fail
    refine (Valid_ref4 n u w1).mono ?_
    rintro e w2 ⟨rfl, hb⟩
    have hb2 := via hb1 hb
    clear hb hb1 c0 c1 k0 k1
    cases hd : decide (0 ≤ axisOf n u)
    all_goals
      have Hd := Lib.hid hd
      clear hd
      go_wp2
      go_ret
      exact ⟨ret_int (by rw [He.out, Hd.out]; rfl), hb2⟩

set_option maxHeartbeats 1000000 in
theorem Move_ref4 (n : Int) (u : P3) (a : Ag) (v1 v2 : Value) (w : World) (hn : 0 ≤ axisOf n u) (hp : bd3 a.p.x a.p.y a.p.z 1000) :
    Calls Try.prog 28 #[.agg #[.int .i64 n, v1, v2], .agg #[.int .i64 u.x, .int .i64 u.y, .int .i64 u.z], .agg #[.int .i64 a.v, .int .i64 a.p.x, .int .i64 a.p.y, .int .i64 a.p.z]] w fun e w' => e = .returned (.agg #[.int .i64 (negC (cellOf (axisOf n u) u a.p)).x, .int .i64 (negC (cellOf (axisOf n u) u a.p)).y]) ∧ Below w.heap.size w w' := by
  have hcb := cellOf_bd (k := axisOf n u) (axis_bd3 hn) hp
  have hf := fun W => Fold_ref4 n u a.p W hn hp
  have Hf := Lib.hid hf
  obtain ⟨⟨q1, q2⟩, q3, q4⟩ := hcb
  unfold negC
  clear hf hn hp
  generalize cellOf (axisOf n u) u a.p = cc at *
  dsimp only
  go_enter Try.func28, Try.ntmps28
  go_wp2_with fail
  refine (Hf.out _).mono ?_
  rintro e w1 ⟨rfl, hb⟩
  have hb1 : Below w.heap.size w w1 := via (by go_grown) hb
  have kr : Block w1 (w.heap.size + 1 + 1 + 1) 52 #[.int .i64 0, .int .i64 0] := (Block.make _ _ (by simp)).call hb
  have hl := kr.lt
  have cr := kr.cell
  have fr := kr.frozen
  clear hb Hf
  go_wp2
  exact bodyPost_ret (v := .agg #[.int .i64 (-cc.x), .int .i64 (-cc.y)]) (by simp [results, Try.results28, go_sem, cr, hl]) rfl ⟨rfl, by go_grown⟩
end Go.Proofs.Ytaimeemdmklmbaa
