/- Which recurrences are valid: what rec.Valid returns. -/
import Derived.Test.YtaimeemdmklmbaaRec2
set_option linter.all false
namespace Go.Proofs.Ytaimeemdmklmbaa
open Go.RowKit Go.Shelf

/-- A recurrence lies in blocks below B: its inequalities, its variables and their arguments. -/
structure RecOf (B : Nat) (w : World) (p : Option Addr) (l : List Iq) (pv : Option Addr) (vs : List Vr) : Prop where
  ineqs : Row B w p 4 Iq.enc l
  vars : Row B w pv 7 Vr.enc vs
  args : ∀ v ∈ vs, Row B w v.ap 4 Ag.enc v.args
  few : l.length ≤ 10000 ∧ vs.length ≤ 10000
  small : ∀ v ∈ vs, v.args.length ≤ 10000 ∧ v.name.size ≤ 1000
theorem RecOf.below {B n0 : Nat} {w w' : World} {p pv : Option Addr} {l : List Iq} {vs : List Vr} (h : RecOf B w p l pv vs) (hb : Below n0 w w') (hn : B ≤ n0) : RecOf B w' p l pv vs :=
  ⟨h.ineqs.below hb hn, h.vars.below hb hn, fun v hv => (h.args v hv).below hb hn, h.few, h.small⟩
theorem RecOf.mono {B B' : Nat} {w : World} {p pv : Option Addr} {l : List Iq} {vs : List Vr} (h : RecOf B w p l pv vs) (hn : B ≤ B') : RecOf B' w p l pv vs :=
  ⟨h.ineqs.mono hn, h.vars.mono hn, fun v hv => (h.args v hv).mono hn, h.few, h.small⟩

theorem keyOf_str {s : ByteArray} (h : s.size ≤ 1000) : keyOf Try.prog 9 (.string s) = some (.string s.data.toList) := by
  have h2 : s.size ≤ maxLen := by unfold maxLen; omega
  simp [keyOf, Try.underlying9, mapKey, h2]
def seenF (seen : List ByteArray) (s : ByteArray) : Option Bool := if s ∈ seen then some true else none
theorem seenF_put (seen : List ByteArray) (s : ByteArray) : fup (seenF seen) s true = seenF (seen ++ [s]) := by
  funext x
  unfold fup seenF
  by_cases h : x = s
  · subst h; simp
  · rw [if_neg h]
    simp [h]

set_option maxRecDepth 100000 in
set_option maxHeartbeats 4000000 in
theorem Valid_rec (n : Int) (p : Option Addr) (c : Nat) (l : List Iq) (pv : Option Addr) (cv : Nat) (vs : List Vr) (w : World) (hR : RecOf w.heap.size w p l pv vs) :
    Calls Try.prog 46 #[.agg #[.int .i64 n, .slice p l.length c, .slice pv vs.length cv]] w fun e w' => e = .returned (.bool (recB n l vs)) ∧ Below w.heap.size w w' := by
  obtain ⟨W0, hW0⟩ : ∃ W0, W0 = w.alloc (.cells #[.int .i64 n, .slice p l.length c, .slice pv vs.length cv] 27) := ⟨_, rfl⟩
  have hb0 : Below w.heap.size w W0 := by rw [hW0]; go_grown
  have hsz : W0.heap.size = w.heap.size + 1 := by rw [hW0]; simp
  have c0 : W0.cell? ⟨w.heap.size, 0, none⟩ = some (.int .i64 n) := by rw [hW0]; simp [go_sem]
  have c2 : W0.cell? ⟨w.heap.size, 2, none⟩ = some (.slice pv vs.length cv) := by rw [hW0]; simp [go_sem]
  have hcount := Count_poly n p c l W0 hR.few.1 ((hR.ineqs.below hb0 (Nat.le_refl _)).mono hb0.size)
  have hfew := hR.few.2
  have HW0 := Lib.hid hW0
  have HR := Lib.hid hR
  clear hR hW0
  have hml := pts_le n l
  go_enter Try.func46, Try.ntmps46
  go_wp2_with fail
  rw [← HW0.out]
  refine hcount.mono ?_
  rintro e w1 ⟨rfl, hb⟩
  have hb1 : Below w.heap.size w w1 := via hb0 hb
  have d0 := (hb.cell (p := ⟨w.heap.size, 0, none⟩) (by simp; omega)).trans c0
  have d2 := (hb.cell (p := ⟨w.heap.size, 2, none⟩) (by simp; omega)).trans c2
  have hs1 : w.heap.size < w1.heap.size := by have := hb.size; omega
  clear hb hcount c0 c2 hb0 hsz HW0
  by_cases h1 : domB n l = true
  · have hn := (domB_n h1).1
    rw [if_pos h1, if_pos h1]
    by_cases h2 : (ptsOf n l).length ≤ 1000
    · by_cases h3 : 1 ≤ vs.length ∧ vs.length ≤ 4
      · have hrec : recB n l vs = scanB vs.length n [] vs := by unfold recB; simp [h1, h2, h3]
        have Hrec := Lib.hid hrec
        have h3' : decide ((1 : Int) ≤ (vs.length : Int) ∧ (vs.length : Int) ≤ 4) = true := decide_eq_true (by omega)
        have H3 := Lib.hid h3'
        have hmm := @run_makeMap Try.prog
        clear hrec h1 h3'
        go_wp2_with (go_at_call 66; refine (between_rec _ _ _ _).mono ?_; rintro e w' ⟨rfl, rfl⟩; rw [H3.out])
        clear H3
        go_loopw [31] (fun i wr => ∃ k m : Nat, k ≤ vs.length ∧ i = .int .i64 k ∧ MapIs wr Try.prog 9 (fun s : ByteArray => .string s) (fun b : Bool => .bool b) w1.heap.size k (seenF ((vs.take k).map Vr.name)) m ∧ Below w1.heap.size w1 wr ∧ scanB vs.length n [] vs = scanB vs.length n ((vs.take k).map Vr.name) (vs.drop k)) (fun i _ => vs.length - (intOf i).toNat)
        case atStart => exact ⟨0, 0, Nat.zero_le _, rfl, MapIs.made _ _ _ _ _, (Below.refl _ w1).alloc (Nat.le_refl _) _, rfl⟩
        case round =>
          obtain ⟨k, m, hk, rfl, hM, hB, hI⟩ := hrel
          have HI := Lib.hid hI
          clear hI
          have e0 : wr.cell? ⟨w.heap.size, 0, none⟩ = some (.int .i64 n) := (hB.cell (p := ⟨w.heap.size, 0, none⟩) hs1).trans d0
          have e2 : wr.cell? ⟨w.heap.size, 2, none⟩ = some (.slice pv vs.length cv) := (hB.cell (p := ⟨w.heap.size, 2, none⟩) hs1).trans d2
          have hBw : Below w.heap.size w wr := hb1.trans (hB.mono (by omega))
          have hsr : w.heap.size < wr.heap.size := by have := hB.size; omega
          by_cases hlt : k < vs.length
          · obtain ⟨b, off, rfl, hbw, hcell⟩ := (HR.out.vars.below hBw (Nat.le_refl _)).at hlt
            have q0 : wr.cell? ⟨b, off + k * 7, none⟩ = some (.string (vs[k]!).name) := hcell 0 (by decide)
            have q1 : wr.cell? ⟨b, off + k * 7 + 1, none⟩ = some (.int .i64 (vs[k]!).op) := hcell 1 (by decide)
            have q2 : wr.cell? ⟨b, off + k * 7 + 2, none⟩ = some (.slice (vs[k]!).ap (vs[k]!).args.length (vs[k]!).ac) := hcell 2 (by decide)
            have q3 : wr.cell? ⟨b, off + k * 7 + 3, none⟩ = some (.int .i64 (vs[k]!).i0) := hcell 3 (by decide)
            have q4 : wr.cell? ⟨b, off + k * 7 + 4, none⟩ = some (.int .i64 (vs[k]!).i1) := hcell 4 (by decide)
            have q5 : wr.cell? ⟨b, off + k * 7 + 5, none⟩ = some (.int .i64 (vs[k]!).i2) := hcell 5 (by decide)
            have q6 : wr.cell? ⟨b, off + k * 7 + 6, none⟩ = some (.int .i64 (vs[k]!).i3) := hcell 6 (by decide)
            obtain ⟨hd, hmem⟩ := tail_mem hlt
            have htk : (vs.take (k + 1)).map Vr.name = (vs.take k).map Vr.name ++ [(vs[k]!).name] := by
              rw [List.take_succ_eq_append_getElem hlt, List.map_append, getElem!_pos vs k hlt]; rfl
            have hsm := HR.out.small _ hmem
            have hrow := (HR.out.args _ hmem).below hBw (Nat.le_refl _)
            have HD := Lib.hid hd
            have HT := Lib.hid htk
            clear hd hcell hmem htk
            generalize vs[k]! = q at *
            go_wp2_with fail
            have hk2 : Below wr.heap.size wr (wr.alloc (.cells #[.string q.name, .int .i64 q.op, .slice q.ap q.args.length q.ac, .int .i64 q.i0, .int .i64 q.i1, .int .i64 q.i2, .int .i64 q.i3] 47)) := by go_grown
            refine (validVar_rec q vs.length n _ hn (by omega) hsm.1 hsm.2 ((hrow.below hk2 (by omega)).mono (by simp; omega))).mono ?_
            rintro e w3 ⟨rfl, hb⟩
            have hB3 : Below w1.heap.size w1 w3 := (hB.trans (hk2.mono hB.size)).trans (hb.mono (by have := hB.size; simp; omega))
            have hM3 := (hM.alloc (.cells #[.string q.name, .int .i64 q.op, .slice q.ap q.args.length q.ac, .int .i64 q.i0, .int .i64 q.i1, .int .i64 q.i2, .int .i64 q.i3] 47)).below hb (by have := hM.lt; simp; omega)
            have hl := hM3.look (Maps.string_keyed Try.underlying9) Try.underlying107 (Try.zeroValue4 w3) q.name (keyOf_str hsm.2)
            have p0 : w3.cell? ⟨wr.heap.size, 0, none⟩ = some (.string q.name) := (hb.cell (p := ⟨wr.heap.size, 0, none⟩) (by simp)).trans (by simp [go_sem])
            have hBw3 : Below w.heap.size w w3 := hb1.trans (hB3.mono (by omega))
            clear hb hk2 hM hB hrow q0 q1 q2 q3 q4 q5 q6 hBw
            by_cases hvb : varB vs.length n q = true
            · rw [hvb]
              by_cases hs : q.name ∈ (vs.take k).map Vr.name
              · have hlv : ((seenF ((vs.take k).map Vr.name) q.name).map fun b : Bool => Value.bool b).getD (.bool false) = .bool true := by unfold seenF; rw [if_pos hs]; rfl
                rw [hlv] at hl
                have hsc : scanB vs.length n ((vs.take k).map Vr.name) (q :: vs.drop (k + 1)) = false := by simp only [scanB, hvb, decide_eq_true hs]; rfl
                have Hsc := Lib.hid hsc
                clear hlv hsc hs hvb
                go_wp2
                go_ret
                exact ⟨ret_bool (by rw [Hrec.out, HI.out, HD.out, Hsc.out]), hBw3⟩
              · have hlv : ((seenF ((vs.take k).map Vr.name) q.name).map fun b : Bool => Value.bool b).getD (.bool false) = .bool false := by unfold seenF; rw [if_neg hs]; rfl
                rw [hlv] at hl
                have hsc : scanB vs.length n ((vs.take k).map Vr.name) (q :: vs.drop (k + 1)) = scanB vs.length n ((vs.take k).map Vr.name ++ [q.name]) (vs.drop (k + 1)) := by simp only [scanB, hvb, decide_eq_false hs]; rfl
                have Hsc := Lib.hid hsc
                clear hlv hsc hs hvb
                go_wp2_with (at_mapUpdate; refine wpList_put rfl _ _ _ _ rfl (Maps.string_keyed Try.underlying9) Try.underlying107 rfl hM3 (by unfold maxLen; omega) (fun x y h => by injection h) q.name true rfl rfl (keyOf_str hsm.2) ?_; intro w4 hM4 hg4)
                have hB4 : Below w1.heap.size w1 w4 := hB3.grown hg4 hB3.size (fun j e => by cases e; exact Nat.le_refl _)
                rw [seenF_put, ← HT.out] at hM4
                go_wp2
                go_roundw
                case rel => exact ⟨k + 1, _, by omega, by go_num, hM4, hB4, by rw [HI.out, HD.out, Hsc.out, HT.out]⟩
                case measure => simp [intOf]; omega
            · have hvb' : varB vs.length n q = false := by simpa using hvb
              rw [hvb']
              have hsc : scanB vs.length n ((vs.take k).map Vr.name) (q :: vs.drop (k + 1)) = false := by simp only [scanB, hvb', Bool.false_and]
              have Hsc := Lib.hid hsc
              clear hsc hvb hvb' hl
              go_wp2
              go_ret
              exact ⟨ret_bool (by rw [Hrec.out, HI.out, HD.out, Hsc.out]), hBw3⟩
          · go_wp2
            go_ret
            exact ⟨ret_bool (by rw [Hrec.out, HI.out, List.drop_eq_nil_of_le (by omega)]; rfl), hBw⟩
      · have hrec : recB n l vs = false := by unfold recB; simp [h1, h2, decide_eq_false h3]
        have Hrec := Lib.hid hrec
        have h3' : decide ((1 : Int) ≤ (vs.length : Int) ∧ (vs.length : Int) ≤ 4) = false := decide_eq_false (by omega)
        have H3 := Lib.hid h3'
        clear hrec h1 h3 h3'
        go_wp2_with (go_at_call 66; refine (between_rec _ _ _ _).mono ?_; rintro e w' ⟨rfl, rfl⟩; rw [H3.out])
        go_ret
        exact ⟨ret_bool Hrec.out.symm, hb1⟩
    · have hrec : recB n l vs = false := by unfold recB; simp [h1, h2]
      have Hrec := Lib.hid hrec
      clear hrec h1
      go_wp2
      go_ret
      exact ⟨ret_bool Hrec.out.symm, hb1⟩
  · have hrec : recB n l vs = false := by unfold recB; simp [h1]
    rw [if_neg h1, if_neg h1]
    have Hrec := Lib.hid hrec
    clear hrec h1
    go_wp2
    go_ret
    exact ⟨ret_bool Hrec.out.symm, hb1⟩
end Go.Proofs.Ytaimeemdmklmbaa
