/- The law ForgeNils: for every input it returns true and leaves its arguments as they read. No condition but that the listed variables of Go's library hold what its text lays (the card ties them); the tables are not read on this road. -/
import Derived.Test.YtkaeodmjcejphaaGreatDoorNilc
import Derived.Test.YtkaeodmjcejphaaGreatDoorNile
import Derived.Test.YtkaeodmjcejphaaGreatDoorTie
import Derived.Test.YtkaeodmjcejphaaGreatDoorCards
import Derived.ProofKit
import Derived.OpenShut
import Derived.LaidMore
import Derived.Lay
import Derived.SevenTiedAt
import Derived.Stop.Joined
import Derived.WideKeyPair
import Derived.Conc.LeavingOf
set_option linter.all false
namespace Go.Proofs.YtkaeodmjcejphaaGreatDoor
open Go.ChangeShapes Go.WideShapes Go.ChangeAt Go.RowKit

theorem leaving_of_lone {P : Program} {n : Nat} {m : Machine} {fr : Frame} {w w' : World} (h : runN P n m = .next (lone fr [] w)) : leavingAtReturn P (lone fr [] w) w' (runNT P (n + 1) m #[]).2 :=
  ⟨(alone_of_lone (w' := w') h).2.1, ⟨fun g hg => by simp [lone] at hg, by simp [lone]⟩, (alone_of_lone (w' := w') h).2.2⟩

theorem returnsInLeavingWide_of_calls {a : Assume} {C : Checked} {os : Os} {f : FuncId} {r : Reach} {Pre : World → Array Value → Prop} {Post : World → Array Value → Value → World → Prop}
    (own : ownKnob C.prog.godebug = none) (started : os.Started) (noInit : C.prog.inits.idxOf? f = none)
    (witness : ∃ (w : World) (tape : Tape) (i : Input), w.os = os ∧ (w.forCall tape i).Shaped C.prog ∧ i.vars = [] ∧ Input.okWide C.prog (w.forCall tape i) r w.heap.size f i ∧ Pre (w.forCall tape i).memory i.args ∧
      a.holds C.prog (lone (Frame.enter C.prog f i.args .normal) [] (w.forCall tape i)))
    (contract : ∀ (w : World) (tape : Tape) (i : Input), w.os = os → (w.forCall tape i).ShapedOpen C.prog → i.vars = [] → Input.okWide C.prog (w.forCall tape i) r w.heap.size f i → Pre (w.forCall tape i).memory i.args →
      a.holds C.prog (lone (Frame.enter C.prog f i.args .normal) [] (w.forCall tape i)) →
      Calls C.prog f i.args (w.forCall tape i) fun
        | .returned v, w' => Post (w.forCall tape i).blind i.args v w'.blind
        | _, _ => False) :
    ReturnsInLeavingWide a C os f r Pre Post := fun enter => by
  obtain ⟨w0, t0, i0, a1, a2, a3, a4, a5, a6⟩ := witness
  refine ⟨enter, own, started, ⟨w0, t0, i0, a1, a2, a3, a4, a5, a6, trivial⟩, fun w tape i h => ?_⟩
  obtain ⟨n, v, w', fr, hn, hend, hp⟩ := (contract w tape i h.1 h.2.1 h.2.2.1 h.2.2.2.1 h.2.2.2.2.1 h.2.2.2.2.2.1).done_lone noInit
  exact ⟨n + 1, v, w', hend, (clean_of_lone hn).2, roomy_placeholder .., hp, ⟨n, _, hn, step_of_runs hn hend, leaving_of_lone hn⟩, fun _ _ _ => trivial⟩

section
variable {H : Type} {enc : TypeId × Value → H}
theorem returnsInLeavingWide_of_change_and {a : Assume} {C : Checked} {os : Os} {f : FuncId} {fn : Func} {s : ChangeSpec} {conds : List PathCond} {apart fresh handsOn again : Bool} {X : World → Array Value → Prop}
    (hX : ∀ (w w' : World) (args : Array Value), w.heap = w'.heap → X w args → X w' args)
    (own : ownKnob C.prog.godebug = none) (started : os.Started) (noInit : C.prog.inits.idxOf? f = none) (hfn : C.prog.funcs[f]? = some fn)
    (witness : ∃ (w : World) (tape : Tape) (i : Input), w.os = os ∧ (w.forCall tape i).Shaped C.prog ∧ i.vars = [] ∧ Input.okWide C.prog (w.forCall tape i) .any w.heap.size f i ∧
      ((s.pre enc C.prog fn conds apart (w.forCall tape i).memory i.args ∧ X (w.forCall tape i).memory i.args) ∧ sizedMet enc C.prog fn (OpenSpec.ofChange s) apart (w.forCall tape i).memory i.args) ∧ a.holds C.prog (lone (Frame.enter C.prog f i.args .normal) [] (w.forCall tape i)))
    (contract : ∀ (W : World) (base : Nat) (args : Array Value) (ds gs : List (DataW H)) (before : List MemPlace),
      (∀ (j : Nat) t v, fn.params[j]? = some t → args[j]? = some v → Value.okWide C.prog W .any base t v) →
      DataW.Whole enc C.prog fn.params.toList s.vars apart W args.toList ds gs before →
      conds.all (PathCond.test C.prog ⟨fn.params.toList, ds, s.plain.varTypes C.prog, gs⟩) = true →
      (DataW.weightsEach C.prog (fn.params.toList ++ s.plain.varTypes C.prog) (ds ++ gs)).all (· ≤ reachBytes) = true → X W args →
      a.holds C.prog (lone (Frame.enter C.prog f args .normal) [] W) →
      Calls C.prog f args W fun e W' => ∃ v, e = .returned v ∧ s.post enc C.prog fn apart fresh handsOn again W args v W') :
    ReturnsInLeavingWide a C os f .any (fun w args => (s.pre enc C.prog fn conds apart w args ∧ X w args) ∧ sizedMet enc C.prog fn (OpenSpec.ofChange s) apart w args) (s.post enc C.prog fn apart fresh handsOn again) := by
  refine returnsInLeavingWide_of_calls own started noInit witness ?_
  intro w tape i _ _ _ hok hpre hholds
  obtain ⟨_, _, _, fn', hfn', _, _, _, _, hval⟩ := hok
  have e : fn' = fn := Option.some.inj (hfn'.symm.trans hfn)
  subst e
  obtain ⟨⟨⟨ds, gs, before, hw, hc⟩, hx⟩, hz⟩ := hpre
  have hw' := DataW.Whole.of_heap (w' := w.forCall tape i) (by rfl) hw
  refine (contract (w.forCall tape i) w.heap.size i.args ds gs before hval hw' hc (hz.weights hw) (hX _ _ _ (by rfl) hx) hholds).mono fun e W' ⟨v, he, hp⟩ => ?_
  subst he
  exact ChangeSpec.post_blind hp
end

theorem own_knob : ownKnob Tryz.prog.godebug = none := by kernel_rfl
theorem arr_key : Go.WideMaps.ArrKey Tryz.prog 22 3 2 := ⟨Tryz.underlying22, by kernel_rfl, by kernel_rfl, by kernel_rfl⟩

set_option maxRecDepth 100000 in
theorem nils_up (os : Os) (started : os.Started) (H : Type) (enc : TypeId × Value → H) :
    ReturnsInLeavingWide {} Tryz.checked os 3 .any (fun w args => (Rows.forgeNilsSpec.pre enc Tryz.prog Tryz.f3 [] false w args ∧ laidMetH Tryz.prog Rows.forgeNilsRow.laid w) ∧ sizedMet enc Tryz.prog Tryz.f3 (OpenSpec.ofChange Rows.forgeNilsSpec) false w args)
      (Rows.forgeNilsSpec.post enc Tryz.prog Tryz.f3 false true false false) := by
  refine returnsInLeavingWide_of_change_and (C := Tryz.checked) (X := fun w _ => laidMetH Tryz.prog Rows.forgeNilsRow.laid w) (fun _ _ _ hh h => h.of_heap hh) own_knob started (by kernel_rfl) Tryz.func3
    (ChangeSpec.witness_shaped (enc := enc) (C := Tryz.checked) (os := os) (X := fun w _ => laidMetH Tryz.prog Rows.forgeNilsRow.laid w) false (World.laidAll Tryz.prog os Rows.forgeNilsRow.laid) #[.string ⟨#[]⟩, .string ⟨#[]⟩, .agg #[.int .i64 0, .int .i64 0]] 8 (World.laidAll_os _ _ _)
      (World.shaped_of_ZipB (by kernel_rfl) (by kernel_rfl)) (by kernel_rfl) (by kernel_rfl) (by kernel_rfl)
      (by rw [MakeChecks.laidMetH_plain _ _ _ (by kernel_rfl)]; exact laidMet_laidAll _ (by kernel_rfl) (by kernel_rfl))) ?_
  intro W base args ds gs before hval0 hW hc _ hL _
  have hval : ∀ (j : Nat) t v, Tryz.f3.params[j]? = some t → args[j]? = some v → Value.okWide Tryz.prog W .any base t v := hval0
  have hW' := hW
  obtain ⟨p, q, hA0, hV, rfl, _, _⟩ := hW
  have hA : DataW.TrodAll enc Tryz.prog W 0 (fun _ => true) true Tryz.f3.params.toList args.toList ds p := hA0
  rw [Tryz.params3] at hA hval
  obtain ⟨v0, v1, v2, d0, d1, d2, p0, p1, p2, rfl, rfl, rfl, h0, h1, h2⟩ := trodAll_three hA
  obtain ⟨rfl, rfl⟩ := trodVars_none hV
  obtain ⟨s, rfl, rfl, rfl, ws⟩ := Go.ChangeMaps.open_string Tryz.underlying9 (hval 0 9 v0 rfl rfl) h0
  obtain ⟨t, rfl, rfl, rfl, wt⟩ := Go.ChangeMaps.open_string Tryz.underlying9 (hval 1 9 v1 rfl rfl) h1
  obtain ⟨d, n, rfl, rfl, rfl, wd, wn⟩ := Go.WideMaps.open_pair arr_key Tryz.underlying3 (hval 2 22 v2 rfl rfl) h2
  simp only [List.append_nil] at hW'
  refine (ForgeNils_true s t d n W).mono fun e W' ⟨he, hb⟩ => ?_
  subst he
  refine ⟨_, rfl, _, _, [], [], [], [], hW', trodAll_mk1 (shut_bool Tryz.underlying4 _), trodAll_mk3 (Go.ChangeMaps.shut_string Tryz.underlying9 ws) (Go.ChangeMaps.shut_string Tryz.underlying9 wt) (Go.WideMaps.shut_pair arr_key Tryz.underlying3 wd wn), rfl, hb.frame _, fun h => by cases h⟩

theorem nils_inst : Tryz.f3.isInstance Tryz.prog Rows.forgeNilsRow.origin Rows.forgeNilsRow.targs := of_decide_eq_true (by kernel_rfl)
theorem nils_wrap : Tryz.f3.isWrapper Tryz.prog Rows.forgeNilsRow.wrapper Rows.forgeNilsRow.mainSum := by unfold Func.isWrapper; first | (rw [if_pos (by decide +kernel)]; kernel_rfl) | (rw [if_neg (by decide +kernel)]; exact ⟨rfl, rfl⟩)
theorem nils_number : Tryz.prog.funcNamed "systole/systolelaw10.ForgeNils" = some 3 := by kernel_rfl
set_option maxRecDepth 100000 in
theorem nils_row : Rows.ForgeNilsSaid :=
  OpenClaim.holds_of_wide_leaving 3 Tryz.f3 rfl rfl rfl rfl rfl rfl rfl ⟨rfl, rfl, rfl, rfl, rfl⟩ rfl rfl rfl rfl rfl nils_number Tryz.func3 nils_closed nils_inst nils_wrap
    (fun os started H enc _ => nils_up os started H enc)
set_option maxRecDepth 100000 in
theorem nils_holds : Rows.ForgeNilsCardSaid :=
  ⟨Claim7.tied_new_at .later [.data, .data, .data, .data, .sentinel, .sentinel, .pinned] true (Claim7.new_of_sixth nils_row (true, "427c3930aea02c4c9471337585e6a493c6b66dbf3e24fb56bc8f7dcfa32bb6e2") true rfl ⟨rfl, rfl⟩ (by kernel_rfl) (by simp [Claim7.isSixth])
    (fun f fn hf hfn => by
      obtain rfl : f = 3 := Option.some.inj ((show Tryz.prog.funcNamed "systole/systolelaw10.ForgeNils" = some 3 by kernel_rfl).symm.trans hf) |>.symm
      obtain rfl : fn = Tryz.f3 := (Option.some.inj (Tryz.func3.symm.trans hfn)).symm
      exact ⟨by kernel_rfl, fun j t ht => by
        rw [Tryz.params3] at ht
        have hm : t ∈ [9, 9, 22] := by simpa using Array.mem_of_getElem? ht
        have hall : ([9, 9, 22].all fun u => !Tryz.prog.wantsStandIn u) = true := by kernel_rfl
        exact (show Tryz.prog.wantsStandIn t = false by simpa using List.all_eq_true.1 hall t hm)⟩)) (by kernel_rfl),
   (fun D hD => by cases hD), forgeNils_row_tie, (fun h => by cases h), by kernel_rfl⟩
#print axioms nils_holds
end Go.Proofs.YtkaeodmjcejphaaGreatDoor
