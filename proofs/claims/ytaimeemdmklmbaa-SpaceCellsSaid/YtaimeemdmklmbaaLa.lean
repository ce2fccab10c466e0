/- The laws' own small functions: equal rows, what is wide, and what is sane. -/
import Derived.Test.YtaimeemdmklmbaaRec3
import Derived.Test.YtaimeemdmklmbaaSp4
import Derived.Test.YtaimeemdmklmbaaPts
import Derived.Test.YtaimeemdmklmbaaEq
import Derived.Test.YtaimeemdmklmbaaOw2
import Derived.Deep.DrawnRows
import Derived.Deep.RegionHeld3
import Derived.Deep.QuietTactic
import Derived.BigQuiet
set_option linter.all false
namespace Go.Proofs.Ytaimeemdmklmbaa
open Go.RowKit Go.Shelf
attribute [local go_sem ↓] Go.wp_at_zero Go.wp_at_succ
attribute [local go_sem] guardCell eqCell

/-- A recurrence of any size lies in blocks below B. -/
structure RawOf (B : Nat) (w : World) (p : Option Addr) (l : List Iq) (pv : Option Addr) (vs : List Vr) : Prop where
  ineqs : Row B w p 4 Iq.enc l
  vars : Row B w pv 7 Vr.enc vs
  args : ∀ v ∈ vs, Row B w v.ap 4 Ag.enc v.args
theorem RawOf.below {B n0 : Nat} {w w' : World} {p pv : Option Addr} {l : List Iq} {vs : List Vr} (h : RawOf B w p l pv vs) (hb : Below n0 w w') (hn : B ≤ n0) : RawOf B w' p l pv vs :=
  ⟨h.ineqs.below hb hn, h.vars.below hb hn, fun v hv => (h.args v hv).below hb hn⟩
theorem RawOf.mono {B B' : Nat} {w : World} {p pv : Option Addr} {l : List Iq} {vs : List Vr} (h : RawOf B w p l pv vs) (hn : B ≤ B') : RawOf B' w p l pv vs :=
  ⟨h.ineqs.mono hn, h.vars.mono hn, fun v hv => (h.args v hv).mono hn⟩
theorem RawOf.call {w w' : World} {p pv : Option Addr} {l : List Iq} {vs : List Vr} (h : RawOf w.heap.size w p l pv vs) (hb : Below w.heap.size w w') : RawOf w'.heap.size w' p l pv vs := (h.below hb (Nat.le_refl _)).mono hb.size
/-- What is not wide. -/
def Slim (l : List Iq) (vs : List Vr) : Prop := vs.length ≤ 8 ∧ l.length ≤ 12 ∧ ∀ v ∈ vs, v.args.length ≤ 8 ∧ v.name.size ≤ 20
theorem RawOf.recOf {B : Nat} {w : World} {p pv : Option Addr} {l : List Iq} {vs : List Vr} (h : RawOf B w p l pv vs) (hs : Slim l vs) : RecOf B w p l pv vs :=
  ⟨h.ineqs, h.vars, h.args, ⟨by have := hs.2.1; omega, by have := hs.1; omega⟩, fun v hv => ⟨by have := (hs.2.2 v hv).1; omega, by have := (hs.2.2 v hv).2; omega⟩⟩

set_option maxHeartbeats 1000000 in
theorem Same_law4 (pa pb : Option Addr) (ca cb : Nat) (xs : List P2) (w : World) (ha : Row w.heap.size w pa 2 P2.enc xs) (hb : Row w.heap.size w pb 2 P2.enc xs) (hm : xs.length ≤ 100000) :
    Calls Try.prog 13 #[.slice pa xs.length ca, .slice pb xs.length cb] w fun e w' => e = .returned (.bool true) ∧ Below w.heap.size w w' := by
  have Ha := Lib.hid ha
  have Hb := Lib.hid hb
  clear ha hb
  go_enter Try.func13, Try.ntmps13
  go_wp2_with fail
  go_loopw [5] (fun x wr => ∃ j : Nat, j ≤ xs.length ∧ x = .int .i64 j ∧ Below w.heap.size w wr) (fun x _ => xs.length - (intOf x).toNat)
  case atStart => exact ⟨0, Nat.zero_le _, rfl, Below.refl _ _⟩
  case round =>
    obtain ⟨j, hj, rfl, hB⟩ := hrel
    by_cases hlt : j < xs.length
    · obtain ⟨b, off, rfl, hbs, e0, e1⟩ := (Ha.out.below hB (Nat.le_refl _)).cl hlt
      obtain ⟨b2, off2, rfl, hbs2, d0, d1⟩ := (Hb.out.below hB (Nat.le_refl _)).cl hlt
      have j0 : (0 : Int) ≤ (j : Int) := Int.natCast_nonneg _
      have j1 : (j : Int) < (xs.length : Int) := by omega
      generalize xs[j]! = y at *
      have hyy : (y.x == y.x && y.y == y.y) = true := by simp
      go_wp2_with fail
      go_quiet (fail)
      go_wp2
      go_roundw
      case rel => exact ⟨j + 1, by omega, by go_num, below_drewN hB _⟩
      case measure => simp [intOf]; omega
    · obtain rfl : j = xs.length := by omega
      go_wp2
      go_ret
      exact ⟨rfl, hB⟩

/-- What Wide returns. -/
def WideIs (l : List Iq) (vs : List Vr) (w : World) (e : Ending) (w' : World) : Prop := (∃ b, e = .returned (.bool b) ∧ (b = false → Slim l vs)) ∧ Below w.heap.size w w'
theorem WideIs.yes {l : List Iq} {vs : List Vr} {w w' : World} (h : Below w.heap.size w w') : WideIs l vs w (.returned (.bool true)) w' := ⟨⟨_, rfl, fun h => by cases h⟩, h⟩
theorem WideIs.slim {l : List Iq} {vs : List Vr} {w w' : World} (hs : Slim l vs) (b : Bool) (h : Below w.heap.size w w') : WideIs l vs w (.returned (.bool b)) w' := ⟨⟨_, rfl, fun _ => hs⟩, h⟩
set_option maxRecDepth 100000 in
set_option maxHeartbeats 4000000 in
theorem Wide_law2 (lim : Int) (n : Int) (p : Option Addr) (c : Nat) (l : List Iq) (pv : Option Addr) (cv : Nat) (vs : List Vr) (w : World) (hR : RawOf w.heap.size w p l pv vs) :
    Calls Try.prog 5 #[.agg #[.int .i64 n, .slice p l.length c, .slice pv vs.length cv], .int .i64 lim] w (WideIs l vs w) := by
  obtain ⟨W0, hW0⟩ : ∃ W0, W0 = w.alloc (.cells #[.int .i64 n, .slice p l.length c, .slice pv vs.length cv] 27) := ⟨_, rfl⟩
  have hb0 : Below w.heap.size w W0 := by rw [hW0]; go_grown
  have k0 : Block W0 w.heap.size 27 #[.int .i64 n, .slice p l.length c, .slice pv vs.length cv] := by rw [hW0]; exact Block.new _ _ _
  have HR := Lib.hid (hR.call hb0)
  have c0 := k0.cell
  have HW0 := Lib.hid hW0
  clear hR hW0
  by_cases h1 : vs.length ≤ 8
  · by_cases h2 : l.length ≤ 12
    · go_enter Try.func5, Try.ntmps5
      go_wp2_with fail
      rw [← HW0.out]
      go_loopw [5] (fun x wr => ∃ j : Nat, j ≤ vs.length ∧ x = .int .i64 j ∧ wr = W0 ∧ ∀ v ∈ vs.take j, v.args.length ≤ 8 ∧ v.name.size ≤ 20) (fun x _ => vs.length - (intOf x).toNat)
      case atStart => exact ⟨0, Nat.zero_le _, rfl, rfl, by simp⟩
      case round =>
        obtain ⟨j, hj, rfl, rfl, hI⟩ := hrel
        have HI := Lib.hid hI
        clear hI
        by_cases hlt : j < vs.length
        · obtain ⟨b, off, rfl, hbs, e0, e1, e2, e3, e4, e5, e6⟩ := HR.out.vars.vr hlt
          have hts := take_snoc hlt
          have Hts := Lib.hid hts
          clear hts
          generalize vs[j]! = x at *
          by_cases h3 : x.args.length ≤ 8
          · by_cases h4 : x.name.size ≤ 20
            · go_wp2_with fail
              go_roundw
              case rel => exact ⟨j + 1, by omega, by go_num, by first | rfl | trivial, fun v hv => by
                rw [Hts.out, List.mem_append, List.mem_singleton] at hv
                rcases hv with hv | rfl
                · exact HI.out v hv
                · exact ⟨h3, h4⟩⟩
              case measure => simp [intOf]; omega
            · go_wp2
              go_ret
              exact WideIs.yes hb0
          · go_wp2
            go_ret
            exact WideIs.yes hb0
        · obtain rfl : j = vs.length := by omega
          have hslim : Slim l vs := ⟨h1, h2, by have := HI.out; rwa [List.take_length] at this⟩
          have Hslim := Lib.hid hslim
          have hval := Valid_ref1 n p c l wr (by omega) HR.out.ineqs
          have hr := HR.out.ineqs
          clear hslim
          cases hd : domB n l
          · rw [hd] at hval
            have Hval := Lib.hid hval
            clear hval hd hr
            go_wp2_with fail
            refine Hval.out.mono ?_
            rintro e w1 ⟨rfl, hb⟩
            have hb1 := via hb0 hb
            clear hb
            go_wp2
            go_ret
            exact WideIs.slim Hslim.out _ hb1
          · rw [hd] at hval
            obtain ⟨_, hl6, hq⟩ := domB_n hd
            have Hval := Lib.hid hval
            have Hq := Lib.hid hq
            have Hr := Lib.hid hr
            clear hval hd hq hr
            go_wp2_with fail
            refine Hval.out.mono ?_
            rintro e w1 ⟨rfl, hb⟩
            have hb1 := via hb0 hb
            have k1 := k0.call hb
            have c1 := k1.cell
            have Hr1 := Lib.hid (Hr.out.call hb)
            clear hb
            go_wp2_with fail
            refine (All_ref n p c l w1 hl6 Hq.out Hr1.out).mono ?_
            rintro e w2 ⟨v2, rfl, hpts, hb⟩
            obtain ⟨q, qc, rfl⟩ := hpts.form
            have hb2 := via hb1 hb
            have k2 := k1.call hb
            have c2 := k2.cell
            have Hr2 := Lib.hid (Hr1.out.call hb)
            clear hb c1 hpts
            by_cases hg : lim < (ptsOf n l).length
            · have hg' : decide (lim < ((ptsOf n l).length : Int)) = true := decide_eq_true hg
              go_wp2_with fail
              refine (All_ref n p c l w2 hl6 Hq.out Hr2.out).mono ?_
              rintro e w3 ⟨v3, rfl, hpts, hb⟩
              obtain ⟨q3, qc3, rfl⟩ := hpts.form
              have hb3 := via hb2 hb
              clear hb hpts
              go_wp2
              go_ret
              exact WideIs.slim Hslim.out _ hb3
            · have hg' : decide (lim < ((ptsOf n l).length : Int)) = false := decide_eq_false hg
              go_wp2
              go_ret
              exact WideIs.slim Hslim.out _ hb2
    · go_enter Try.func5, Try.ntmps5
      go_wp2
      go_ret
      exact WideIs.yes (by rw [← HW0.out]; exact hb0)
  · go_enter Try.func5, Try.ntmps5
    go_wp2
    go_ret
    exact WideIs.yes (by rw [← HW0.out]; exact hb0)
end Go.Proofs.Ytaimeemdmklmbaa
