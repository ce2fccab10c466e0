/- The parts of the bytes of "abc". -/
import Derived.Test.YtkaeodmjcejphaaGreatDoorNila
import Derived.Laws.BytesArg
import Derived.Lib.SlBytesConst
set_option linter.all false
namespace Go.Proofs.YtkaeodmjcejphaaGreatDoor
open Go.RowKit

def u8Enc (n : Int) : List Value := [.int .u8 n]
/-- 'out = append(out, y)' for the walk, with what the append leaves alone. -/
theorem wpList_own_g {α : Type} [Inhabited α] {base : Nat} {w : World} {E k : Nat} {enc : α → List Value} {v : Value} {xs : List α} {P : Program} {ops : Array Oper} {rest : List Oper} {o : Oper} {a : Act} {Q : Exit → Act → World → Prop} (hgd : o.guard = none) (s x : Operand) (t : TypeId)
    (ho : o.op = .call { callee := .builtin .append, args := #[s, x], argTypes := #[t, t] }) (i : TypeInfo) (z : Value) (bytes : Nat) (ht : P.underlying t = some (.slice E)) (hi : P.info? E = some i) (hz : i.zero = some z)
    (hsize : i.size = k) (hby : i.bytes = bytes) (hzs : z.cells.size = k) (hsz : 0 < k) (hs : a.eval s = v) (hown : Own base w E k enc v xs) (y : α) (hk : (enc y).length = k) (h1 : ∀ u ∈ enc y, u.oneCell' = true)
    (A : Nat) (hx : a.eval x = .slice (some ⟨A, 0, none⟩) 1 1) (hA : ∀ j u, (enc y)[j]? = some u → w.cell? ⟨A, j, none⟩ = some u) (hlen : (xs.length + 1) * bytes ≤ 140737488355328 ∧ xs.length + 1 ≤ maxLen) (hbase : base ≤ w.heap.size)
    (h : ∀ v' w', Own base w' E k enc v' (xs ++ [y]) → Below base w w' → w.grownBy w' v.ownBlock → wpList P ops Q rest (a.put o.dst v') w') : wpList P ops Q (o :: rest) a w :=
  wpList_append_own w hgd s x t ho base E i z k bytes ht hi hz hsize hby hzs hsz v xs.length (xs.flatMap enc) hs hown ⟨A, 0, none⟩ 1 1 (enc y) hx (by rw [hk, Nat.one_mul])
    (fun j u hj => by
      have : (⟨A, 0, none⟩ : Addr).add j = ⟨A, j, none⟩ := by unfold Addr.add; split <;> simp_all
      rw [this]; exact hA j u hj) h1 hlen.2 hlen.1 hbase fun v' w' h2 h3 _ => h v' w' (Own.step hown h2 h3 hbase).1 (Own.step hown h2 h3 hbase).2 h3

theorem infoU8 : (Tryz.prog.info? 5).map (fun i => (i.zero, i.size, i.bytes)) = some (some (.int .u8 0), 1, 1) := by kernel_rfl
set_option maxHeartbeats 4000000 in
set_option maxRecDepth 100000 in
theorem mixed_abc (ga ca gb cb : Nat) (w : World) (ha : ga < w.heap.size) (hb : gb < w.heap.size) (a0 : w.cell? ⟨ga, 0, none⟩ = some (.int .u8 97)) (a1 : w.cell? ⟨ga, 1, none⟩ = some (.int .u8 99)) (b0 : w.cell? ⟨gb, 0, none⟩ = some (.int .u8 98)) :
    Calls Tryz.prog 59 #[.slice (some ⟨ga, 0, none⟩) 2 ca, .slice (some ⟨gb, 0, none⟩) 1 cb, .int .i64 2] w fun e w' => ∃ v, e = .returned v ∧ Own w.heap.size w' 5 1 u8Enc v [3, 99] ∧ Below w.heap.size w w' := by
  obtain ⟨i0, hinf, zz0, zz1, zz2⟩ := info_parts infoU8
  go_enter Tryz.func59, Tryz.ntmps59
  go_wp2
  refine wp_loop_rounds 3 ?_
  rw [rounds_succ]
  go_wp2
  refine wp_loop_rounds 3 ?_
  rw [rounds_succ]
  go_wp2
  rw [rounds_succ]
  go_wp2
  rw [rounds_succ]
  go_wp2_with (at_builtin; go_loud (refine wpList_own rfl _ _ 32 rfl i0 _ 1 Tryz.underlying32 hinf zz0 zz1 zz2 rfl (by decide) rfl (Own.nil w.heap.size _ _ 1 u8Enc) (bits BinOp.xor IntKind.u8 (bits BinOp.xor IntKind.u8 0 97) 98) rfl (by simp [u8Enc, Value.oneCell']) (w.heap.size + 1) rfl (by intro j u h; rcases j with _ | j <;> simp_all [u8Enc, go_sem]) ⟨by decide, by unfold maxLen; decide⟩ (by simp <;> omega) ?_; intro v0 w1 hown hb1))
  have hb1' : Below w.heap.size w w1 := Below.trans (by go_grown) hb1
  have hsz : w.heap.size < w1.heap.size := by have := hb1.size; simp at this; omega
  have c0 : w1.cell? ⟨ga, 1, none⟩ = some (.int .u8 99) := (hb1'.cell (p := ⟨ga, 1, none⟩) ha).trans a1
  have ha1 : ga < w1.heap.size := by omega
  have hbb1 : gb < w1.heap.size := by omega
  clear hb1
  rw [rounds_succ]
  go_wp2
  refine wp_loop_rounds 3 ?_
  rw [rounds_succ]
  go_wp2
  rw [rounds_succ]
  go_wp2
  rw [rounds_succ]
  go_wp2_with (at_builtin; go_loud (refine wpList_own rfl _ _ 32 rfl i0 _ 1 Tryz.underlying32 hinf zz0 zz1 zz2 rfl (by decide) rfl ((hown.alloc _).alloc _) (bits BinOp.xor IntKind.u8 0 99) rfl (by simp [u8Enc, Value.oneCell']) (w1.heap.size + 1) rfl (by intro j u h; rcases j with _ | j <;> simp_all [u8Enc, go_sem]) ⟨by decide, by unfold maxLen; decide⟩ (by simp <;> omega) ?_; intro v2 w2 hown2 hb2))
  have hb2' : Below w.heap.size w w2 := hb1'.trans (Below.trans (((Below.refl _ _).alloc (by omega) _).alloc (by simp; omega) _) hb2)
  rw [rounds_succ]
  go_wp2
  go_ret
  exact ⟨_, rfl, hown2, hb2'⟩

theorem Own.u8at {base : Nat} {w : World} {E g n c : Nat} {xs : List Int} (h : Own base w E 1 u8Enc (.slice (some ⟨g, 0, none⟩) n c) xs) (i : Nat) (hi : i < xs.length) : w.cell? ⟨g, i, none⟩ = some (.int .u8 xs[i]!) ∧ g < w.heap.size := by
  obtain ⟨p, q, hp, hr⟩ := h.row (fun _ => rfl)
  obtain ⟨b, o, rfl, hb, hc⟩ := hr (by rintro rfl; simp at hi)
  simp only [Value.slice.injEq, Option.some.injEq, Addr.mk.injEq] at hp
  obtain ⟨⟨rfl, rfl, _⟩, _, _⟩ := hp
  exact ⟨by simpa [u8Enc] using hc i hi 0 (by omega), hb⟩
/-- The two arrays that 'parts' makes: the result, and the list of parts. -/
structure Pst (w U : World) (v0 v1 v2 : Value) : Prop where
  b : Below w.heap.size w U
  s : w.heap.size + 2 ≤ U.heap.size
  h0 : U.heap[w.heap.size]? = some (.cells #[.slice none 0 0, .slice none 0 0, .slice none 0 0] 62 (0, 0))
  h1 : U.heap[w.heap.size + 1]? = some (.cells #[v0, v1, v2] 62 (0, 0))
theorem Pst.start (w : World) : Pst w ((w.alloc (.cells #[.slice none 0 0, .slice none 0 0, .slice none 0 0] 62)).alloc (.cells #[.slice none 0 0, .slice none 0 0, .slice none 0 0] 62)) (.slice none 0 0) (.slice none 0 0) (.slice none 0 0) :=
  ⟨by go_grown, by simp, (Below.heap_alloc _ _ _ (by simp)).trans (heap_alloc_new _ _), by have h := heap_alloc_new (w.alloc (.cells #[.slice none 0 0, .slice none 0 0, .slice none 0 0] 62)) (.cells #[.slice none 0 0, .slice none 0 0, .slice none 0 0] 62); rwa [show (w.alloc (.cells #[.slice none 0 0, .slice none 0 0, .slice none 0 0] 62)).heap.size = w.heap.size + 1 by simp] at h⟩
theorem Pst.grow {w U U' : World} {v0 v1 v2 : Value} (h : Pst w U v0 v1 v2) (hb : Below (w.heap.size + 2) U U') : Pst w U' v0 v1 v2 :=
  ⟨h.b.trans (hb.mono (by omega)), Nat.le_trans h.s hb.size, (hb.block _ (by omega)).trans h.h0, (hb.block _ (by omega)).trans h.h1⟩
theorem Pst.set {w U : World} {v0 v1 v2 : Value} (h : Pst w U v0 v1 v2) (i : Nat) (x : Value) {y0 y1 y2 : Value} (e : #[v0, v1, v2].setIfInBounds i x = #[y0, y1, y2]) : Pst w (U.setCell ⟨w.heap.size + 1, i, none⟩ x) y0 y1 y2 :=
  ⟨h.b.setCell (by simp) _, by simpa using h.s, (heap_setCell_other _ _ _ _ (by simp)).trans h.h0, by rw [heap_setCell_same _ _ _ _ _ _ h.h1, e]⟩
theorem Pst.cells {w U : World} {v0 v1 v2 : Value} (h : Pst w U v0 v1 v2) : (U.cell? ⟨w.heap.size + 1, 0, none⟩ = some v0 ∧ U.cell? ⟨w.heap.size + 1, 1, none⟩ = some v1 ∧ U.cell? ⟨w.heap.size + 1, 2, none⟩ = some v2) ∧ (∀ j, U.frozen? ⟨w.heap.size + 1, j, none⟩ = false) ∧
    (∀ j, j < 3 → U.cell? ⟨w.heap.size, j, none⟩ = some (.slice none 0 0)) ∧ (∀ j, U.frozen? ⟨w.heap.size, j, none⟩ = false) := by
  have h0 := h.h0
  have h1 := h.h1
  refine ⟨⟨?_, ?_, ?_⟩, ?_, ?_, ?_⟩
  · simp [World.cell?, h1]
  · simp [World.cell?, h1]
  · simp [World.cell?, h1]
  · intro j; simp [World.frozen?, h1]
  · intro j hj
    have : j = 0 ∨ j = 1 ∨ j = 2 := by omega
    rcases this with rfl | rfl | rfl <;> simp [World.cell?, h0]
  · intro j; simp [World.frozen?, h0]

set_option maxHeartbeats 4000000 in
set_option maxRecDepth 100000 in
theorem parts_abc (g c : Nat) (w : World) (hg : g < w.heap.size) (a0 : w.cell? ⟨g, 0, none⟩ = some (.int .u8 97)) (a1 : w.cell? ⟨g, 1, none⟩ = some (.int .u8 98)) (a2 : w.cell? ⟨g, 2, none⟩ = some (.int .u8 99)) :
    Calls Tryz.prog 41 #[.slice (some ⟨g, 0, none⟩) 3 c] w fun e w' => ∃ u v x, e = .returned (.agg #[u, v, x]) ∧ Own w.heap.size w' 5 1 u8Enc u [97, 99] ∧ Own w.heap.size w' 5 1 u8Enc v [98] ∧ Own w.heap.size w' 5 1 u8Enc x [3, 99] ∧ Below w.heap.size w w' := by
  obtain ⟨i0, hinf, zz0, zz1, zz2⟩ := info_parts infoU8
  go_enter Tryz.func41, Tryz.ntmps41
  go_wp2
  obtain ⟨U, hU⟩ : ∃ U, U = (w.alloc (.cells #[.slice none 0 0, .slice none 0 0, .slice none 0 0] 62)).alloc (.cells #[.slice none 0 0, .slice none 0 0, .slice none 0 0] 62) := ⟨_, rfl⟩
  rw [← hU]
  have P0 : Pst w U (.slice none 0 0) (.slice none 0 0) (.slice none 0 0) := hU ▸ Pst.start w
  clear hU
  have e0 := (P0.b.cell (p := ⟨g, 0, none⟩) hg).trans a0
  have hs := P0.s
  have hlt0 : w.heap.size + 1 < U.heap.size := by omega
  have hgU : g < U.heap.size := by omega
  obtain ⟨⟨c0, c1, c2⟩, f1, r0, rf⟩ := P0.cells
  refine wp_loop_rounds 4 ?_
  rw [rounds_succ]
  go_wp2_with (at_builtin; go_loud (refine wpList_own_g rfl _ _ 32 rfl i0 _ 1 Tryz.underlying32 hinf zz0 zz1 zz2 rfl (by decide) rfl (Own.nil (w.heap.size + 2) _ _ 1 u8Enc) (97 : Int) rfl (by simp [u8Enc, Value.oneCell']) U.heap.size rfl (by intro j u h; rcases j with _ | j <;> simp_all [u8Enc, go_sem]) ⟨by decide, by unfold maxLen; decide⟩ (by simp <;> omega) ?_; intro v0 w1 hown hb1 hg1; obtain ⟨g0, cap0, rfl, hg0, hg0'⟩ := hown.head (by simp); have hc0 := (bcell hb1).1; have hf0 := (bcell hb1).2))
  have own0 : Own (w.heap.size + 2) (w1.setCell ⟨w.heap.size + 1, 0, none⟩ (.slice (some ⟨g0, 0, none⟩) 1 cap0)) 5 1 u8Enc (.slice (some ⟨g0, 0, none⟩) 1 cap0) [97] := ownsRow_setCell_below hown (by simp) _
  have P1 : Pst w (w1.setCell ⟨w.heap.size + 1, 0, none⟩ (.slice (some ⟨g0, 0, none⟩) 1 cap0)) (.slice (some ⟨g0, 0, none⟩) 1 cap0) (.slice none 0 0) (.slice none 0 0) := ((P0.grow ((Below.refl _ _).alloc hs _)).grow hb1).set 0 _ rfl
  have hg0s : g0 < (w1.setCell ⟨w.heap.size + 1, 0, none⟩ (.slice (some ⟨g0, 0, none⟩) 1 cap0)).heap.size := by simpa using hg0'
  clear hown hb1 hg1 hc0 hf0 e0 c0 c1 c2 f1 r0 rf P0 hs hgU hlt0
  generalize w1.setCell ⟨w.heap.size + 1, 0, none⟩ (.slice (some ⟨g0, 0, none⟩) 1 cap0) = U1 at *
  have e0 := (P1.b.cell (p := ⟨g, 1, none⟩) hg).trans a1
  have hs := P1.s
  have hlt1 : w.heap.size + 1 < U1.heap.size := by omega
  have hgU : g < U1.heap.size := by omega
  obtain ⟨⟨c0, c1, c2⟩, f1, r0, rf⟩ := P1.cells
  rw [rounds_succ]
  go_wp2_with (at_builtin; go_loud (refine wpList_own_g rfl _ _ 32 rfl i0 _ 1 Tryz.underlying32 hinf zz0 zz1 zz2 rfl (by decide) rfl (Own.nil U1.heap.size _ _ 1 u8Enc) (98 : Int) rfl (by simp [u8Enc, Value.oneCell']) U1.heap.size rfl (by intro j u h; rcases j with _ | j <;> simp_all [u8Enc, go_sem]) ⟨by decide, by unfold maxLen; decide⟩ (by simp <;> omega) ?_; intro v1 w2 hown hb1 hg1; obtain ⟨g1, cap1, rfl, hg1', hg1''⟩ := hown.head (by simp); have hc0 := (bcell hb1).1; have hf0 := (bcell hb1).2; have hlt : w.heap.size + 1 < U1.heap.size := by omega))
  have hB : Below U1.heap.size U1 w2 := ((Below.refl _ _).alloc (Nat.le_refl _) _).trans hb1
  have own0' : Own (w.heap.size + 2) (w2.setCell ⟨w.heap.size + 1, 1, none⟩ (.slice (some ⟨g1, 0, none⟩) 1 cap1)) 5 1 u8Enc (.slice (some ⟨g0, 0, none⟩) 1 cap0) [97] := ownsRow_setCell_below (own0.below hB (Nat.le_refl _)) (by simp) _
  have own1 : Own U1.heap.size (w2.setCell ⟨w.heap.size + 1, 1, none⟩ (.slice (some ⟨g1, 0, none⟩) 1 cap1)) 5 1 u8Enc (.slice (some ⟨g1, 0, none⟩) 1 cap1) [98] := ownsRow_setCell_below hown (by simp; omega) _
  have P2 : Pst w (w2.setCell ⟨w.heap.size + 1, 1, none⟩ (.slice (some ⟨g1, 0, none⟩) 1 cap1)) (.slice (some ⟨g0, 0, none⟩) 1 cap0) (.slice (some ⟨g1, 0, none⟩) 1 cap1) (.slice none 0 0) := (P1.grow (hB.mono hs)).set 1 _ rfl
  have hne : g1 ≠ g0 := by omega
  have hbase1 := hs
  clear hown hb1 hg1 hc0 hf0 e0 c0 c1 c2 f1 r0 rf P1 hgU own0 hB hlt hg0s hg0' hg1''
  generalize w2.setCell ⟨w.heap.size + 1, 1, none⟩ (.slice (some ⟨g1, 0, none⟩) 1 cap1) = U2 at *
  have e0 := (P2.b.cell (p := ⟨g, 2, none⟩) hg).trans a2
  have hs2 := P2.s
  have hlt2 : w.heap.size + 1 < U2.heap.size := by omega
  have hgU : g < U2.heap.size := by omega
  obtain ⟨⟨c0, c1, c2⟩, f1, r0, rf⟩ := P2.cells
  rw [rounds_succ]
  go_wp2_with (at_builtin; go_loud (refine wpList_own_g rfl _ _ 32 rfl i0 _ 1 Tryz.underlying32 hinf zz0 zz1 zz2 rfl (by decide) rfl (own0'.alloc _) (99 : Int) rfl (by simp [u8Enc, Value.oneCell']) U2.heap.size rfl (by intro j u h; rcases j with _ | j <;> simp_all [u8Enc, go_sem]) ⟨by decide, by unfold maxLen; decide⟩ (by simp <;> omega) ?_; intro v2 w3 hown hb1 hg1; obtain ⟨g2, cap2, rfl, hg2', hg2''⟩ := hown.head (by simp); have hc0 := (bcell hb1).1; have hf0 := (bcell hb1).2))
  have hB : Below (w.heap.size + 2) U2 w3 := ((Below.refl _ _).alloc hs2 _).trans hb1
  have own0 : Own (w.heap.size + 2) (w3.setCell ⟨w.heap.size + 1, 0, none⟩ (.slice (some ⟨g2, 0, none⟩) 2 cap2)) 5 1 u8Enc (.slice (some ⟨g2, 0, none⟩) 2 cap2) [97, 99] := ownsRow_setCell_below hown (by simp) _
  have own1' : Own (w.heap.size + 2) (w3.setCell ⟨w.heap.size + 1, 0, none⟩ (.slice (some ⟨g2, 0, none⟩) 2 cap2)) 5 1 u8Enc (.slice (some ⟨g1, 0, none⟩) 1 cap1) [98] := ownsRow_setCell_below (World.ownsRow.kept ((own1.mono hbase1).alloc _) hg1 (.inr (by show some g1 ≠ some g0; simpa using hne))) (by simp) _
  have P3 : Pst w (w3.setCell ⟨w.heap.size + 1, 0, none⟩ (.slice (some ⟨g2, 0, none⟩) 2 cap2)) (.slice (some ⟨g2, 0, none⟩) 2 cap2) (.slice (some ⟨g1, 0, none⟩) 1 cap1) (.slice none 0 0) := (P2.grow hB).set 0 _ rfl
  clear hown hb1 hg1 hc0 hf0 e0 c0 c1 c2 f1 r0 rf P2 hgU own0' own1 hB hg2''
  generalize w3.setCell ⟨w.heap.size + 1, 0, none⟩ (.slice (some ⟨g2, 0, none⟩) 2 cap2) = U3 at *
  obtain ⟨d0, hb0⟩ := own0.u8at 0 (by simp)
  have d1 := (own0.u8at 1 (by simp)).1
  obtain ⟨d2, hb1⟩ := own1'.u8at 0 (by simp)
  have hs3 := P3.s
  obtain ⟨⟨c0, c1, c2⟩, f1, r0, rf⟩ := P3.cells
  rw [rounds_succ]
  go_wp2_with fail
  refine (mixed_abc g2 cap2 g1 cap1 U3 hb0 hb1 d0 d1 d2).mono ?_
  rintro e w4 ⟨v4, rfl, hown, hb⟩
  obtain ⟨g4, cap4, rfl, hg4, hg4'⟩ := hown.head (by simp)
  have hlt3 : w.heap.size + 1 < U3.heap.size := by omega
  have hlt4 : w.heap.size < U3.heap.size := by omega
  have q0 := ((bcell hb).1 _ 0 hlt4).trans (r0 0 (by omega))
  have q1 := ((bcell hb).1 _ 1 hlt4).trans (r0 1 (by omega))
  have q2 := ((bcell hb).1 _ 2 hlt4).trans (r0 2 (by omega))
  have qf : ∀ j, w4.frozen? ⟨w.heap.size, j, none⟩ = false := fun j => ((bcell hb).2 _ j hlt4).trans (rf j)
  have m0 := ((bcell hb).1 _ 0 hlt3).trans c0
  have m1 := ((bcell hb).1 _ 1 hlt3).trans c1
  have m2 := ((bcell hb).1 _ 2 hlt3).trans c2
  have mf : ∀ j, w4.frozen? ⟨w.heap.size + 1, j, none⟩ = false := fun j => ((bcell hb).2 _ j hlt3).trans (f1 j)
  clear r0 rf f1 c0 c1 c2
  go_wp2
  have hB : Below w.heap.size w w4 := P3.b.trans (hb.mono (by omega))
  have k0 := own0.below hb (Nat.le_refl _)
  have k1 := own1'.below hb (Nat.le_refl _)
  have k2 : Own (w.heap.size + 2) w4 _ 1 u8Enc _ [3, 99] := hown.mono hs3
  refine bodyPost_ret (v := .agg #[.slice (some ⟨g2, 0, none⟩) 2 cap2, .slice (some ⟨g1, 0, none⟩) 1 cap1, .slice (some ⟨g4, 0, none⟩) 2 cap4]) ?_ rfl ⟨_, _, _, rfl, ?_, ?_, ?_, ?_⟩
  · simp [results, Tryz.results41, go_sem, q0, q1, q2]
  · exact Own.mono (ownsRow_setCell_below (ownsRow_setCell_below (ownsRow_setCell_below (ownsRow_setCell_below k0 (by simp) _) (by simp) _) (by simp) _) (by simp) _) (by omega)
  · exact Own.mono (ownsRow_setCell_below (ownsRow_setCell_below (ownsRow_setCell_below (ownsRow_setCell_below k1 (by simp) _) (by simp) _) (by simp) _) (by simp) _) (by omega)
  · exact Own.mono (ownsRow_setCell_below (ownsRow_setCell_below (ownsRow_setCell_below (ownsRow_setCell_below k2 (by simp) _) (by simp) _) (by simp) _) (by simp) _) (by omega)
  · exact (((hB.setCell (by simp) _).setCell (by simp) _).setCell (by simp) _).setCell (by simp) _

/-- The three parts as slices that can be read. -/
def Abc (w : World) (u v x : Value) (w' : World) : Prop := ∃ b0 c0 b1 c1 b2 c2, u = .slice (some ⟨b0, 0, none⟩) 2 c0 ∧ v = .slice (some ⟨b1, 0, none⟩) 1 c1 ∧ x = .slice (some ⟨b2, 0, none⟩) 2 c2 ∧ (w.heap.size ≤ b0 ∧ b0 < w'.heap.size) ∧ (w.heap.size ≤ b1 ∧ b1 < w'.heap.size) ∧ (w.heap.size ≤ b2 ∧ b2 < w'.heap.size) ∧
  w'.cell? ⟨b0, 0, none⟩ = some (.int .u8 97) ∧ w'.cell? ⟨b0, 1, none⟩ = some (.int .u8 99) ∧ w'.cell? ⟨b1, 0, none⟩ = some (.int .u8 98) ∧ w'.cell? ⟨b2, 0, none⟩ = some (.int .u8 3) ∧ w'.cell? ⟨b2, 1, none⟩ = some (.int .u8 99)
theorem abc_of {w w' : World} {u v x : Value} {E : Nat} (h0 : Own w.heap.size w' E 1 u8Enc u [97, 99]) (h1 : Own w.heap.size w' E 1 u8Enc v [98]) (h2 : Own w.heap.size w' E 1 u8Enc x [3, 99]) : Abc w u v x w' := by
  obtain ⟨b0, c0, rfl, p0, q0⟩ := h0.head (by simp)
  obtain ⟨b1, c1, rfl, p1, q1⟩ := h1.head (by simp)
  obtain ⟨b2, c2, rfl, p2, q2⟩ := h2.head (by simp)
  exact ⟨b0, c0, b1, c1, b2, c2, rfl, rfl, rfl, ⟨p0, q0⟩, ⟨p1, q1⟩, ⟨p2, q2⟩, (h0.u8at 0 (by simp)).1, (h0.u8at 1 (by simp)).1, (h1.u8at 0 (by simp)).1, (h2.u8at 0 (by simp)).1, (h2.u8at 1 (by simp)).1⟩

set_option maxHeartbeats 1000000 in
theorem Parts_abc (g c : Nat) (w : World) (hg : g < w.heap.size) (a0 : w.cell? ⟨g, 0, none⟩ = some (.int .u8 97)) (a1 : w.cell? ⟨g, 1, none⟩ = some (.int .u8 98)) (a2 : w.cell? ⟨g, 2, none⟩ = some (.int .u8 99)) :
    Calls Tryz.prog 21 #[.slice (some ⟨g, 0, none⟩) 3 c] w fun e w' => ∃ u v x, e = .returned (.tuple #[.agg #[u, v, x], .int .i64 0]) ∧ Abc w u v x w' ∧ Below w.heap.size w w' := by
  go_enter Tryz.func21, Tryz.ntmps21
  go_wp2_with fail
  refine (parts_abc g c _ (by simp; omega) (by simpa [go_sem, hg] using a0) (by simpa [go_sem, hg] using a1) (by simpa [go_sem, hg] using a2)).mono ?_
  rintro e w4 ⟨u, v, x, rfl, h0, h1, h2, hb⟩
  obtain ⟨b0, c0, b1, c1, b2, c2, rfl, rfl, rfl, p0, p1, p2, d0, d1, d2, d3, d4⟩ := abc_of h0 h1 h2
  have q0 : w4.cell? ⟨w.heap.size, 0, none⟩ = some (.slice none 0 0) := ((bcell hb).1 _ 0 (by simp)).trans (by simp [go_sem])
  have q1 : w4.cell? ⟨w.heap.size, 1, none⟩ = some (.slice none 0 0) := ((bcell hb).1 _ 1 (by simp)).trans (by simp [go_sem])
  have q2 : w4.cell? ⟨w.heap.size, 2, none⟩ = some (.slice none 0 0) := ((bcell hb).1 _ 2 (by simp)).trans (by simp [go_sem])
  have qf : ∀ j, w4.frozen? ⟨w.heap.size, j, none⟩ = false := fun j => ((bcell hb).2 _ j (by simp)).trans (by simp [go_sem])
  have hB : Below w.heap.size w w4 := Below.trans (by go_grown) (hb.mono (by simp))
  simp only [World.size_alloc] at p0 p1 p2
  have n0 : b0 ≠ w.heap.size := by omega
  have n1 : b1 ≠ w.heap.size := by omega
  have n2 : b2 ≠ w.heap.size := by omega
  clear h0 h1 h2 hb
  go_wp2
  refine bodyPost_ret (v := .tuple #[.agg #[.slice (some ⟨b0, 0, none⟩) 2 c0, .slice (some ⟨b1, 0, none⟩) 1 c1, .slice (some ⟨b2, 0, none⟩) 2 c2], .int .i64 0]) ?_ rfl ⟨_, _, _, rfl, ⟨b0, c0, b1, c1, b2, c2, rfl, rfl, rfl, ⟨by omega, by simpa using p0.2⟩, ⟨by omega, by simpa using p1.2⟩, ⟨by omega, by simpa using p2.2⟩, ?_, ?_, ?_, ?_, ?_⟩, ?_⟩
  · simp [results, Tryz.results21, go_sem, q0, q1, q2]
  · simp [go_sem, n0, d0]
  · simp [go_sem, n0, d1]
  · simp [go_sem, n1, d2]
  · simp [go_sem, n2, d3]
  · simp [go_sem, n2, d4]
  · exact ((hB.setCell (by simp) _).setCell (by simp) _).setCell (by simp) _

theorem str_of {w : World} {b c : Nat} (xs : List Int) (s : ByteArray) (hs : strOfNums xs = s) (n : Nat) (hn : xs.length = n) (hc : ∀ i, i < n → w.cell? ⟨b, i, none⟩ = some (.int .u8 (xs.getD i 0))) :
    (convert 32 9 (.slice (some ⟨b, 0, none⟩) n c)).run Tryz.prog w = .ok (.string s) w := by
  subst hs
  exact run_convert_bytes_arg w _ _ Tryz.underlying32 Tryz.underlying5 b 0 n c xs hn (fun i hi => by rw [Nat.zero_add]; exact hc i hi) _ Tryz.underlying9
set_option maxHeartbeats 1000000 in
set_option maxRecDepth 100000 in
theorem Sane_law (w : World) : Calls Tryz.prog 4 #[] w fun e w' => e = .returned (.bool true) ∧ Below w.heap.size w w' := by
  have cv := Lib.run_convert_bytes_const (P := Tryz.prog) w 32 5 #[.int .u8 97, .int .u8 98, .int .u8 99] 3 3 Tryz.underlying32 Tryz.underlying5
  go_enter Tryz.func4, Tryz.ntmps4
  go_wp2_with fail
  refine (Parts_abc w.heap.size 3 _ (by simp) (by simp [World.cell?_alloc_mark]) (by simp [World.cell?_alloc_mark]) (by simp [World.cell?_alloc_mark])).mono ?_
  rintro e w4 ⟨u, v, x, rfl, ⟨b0, c0, b1, c1, b2, c2, rfl, rfl, rfl, p0, p1, p2, d0, d1, d2, d3, d4⟩, hb⟩
  have hB : Below w.heap.size w w4 := Below.trans (by go_grown) (hb.mono (by simp))
  simp only [World.size_alloc] at p0 p1 p2
  clear hb cv
  have s0 : ∀ o, (convert 32 9 (.slice (some ⟨b0, 0, none⟩) 2 c0)).run Tryz.prog (w4.alloc o) = .ok (.string ⟨#[97, 99]⟩) (w4.alloc o) := fun o => str_of [97, 99] _ (by decide) 2 rfl (fun i hi => by
    have : i = 0 ∨ i = 1 := by omega
    rcases this with rfl | rfl <;> simp [World.cell?_alloc_past, p0.2, d0, d1])
  have s1 : ∀ o, (convert 32 9 (.slice (some ⟨b1, 0, none⟩) 1 c1)).run Tryz.prog (w4.alloc o) = .ok (.string ⟨#[98]⟩) (w4.alloc o) := fun o => str_of [98] _ (by decide) 1 rfl (fun i hi => by
    have : i = 0 := by omega
    subst this; simp [World.cell?_alloc_past, p1.2, d2])
  have s2 : ∀ o, (convert 32 9 (.slice (some ⟨b2, 0, none⟩) 2 c2)).run Tryz.prog (w4.alloc o) = .ok (.string ⟨#[3, 99]⟩) (w4.alloc o) := fun o => str_of [3, 99] _ (by decide) 2 rfl (fun i hi => by
    have : i = 0 ∨ i = 1 := by omega
    rcases this with rfl | rfl <;> simp [World.cell?_alloc_past, p2.2, d3, d4])
  go_wp2
  go_ret
  exact ⟨rfl, hB.alloc (by have := hB.size; omega) _⟩
end Go.Proofs.YtkaeodmjcejphaaGreatDoor
