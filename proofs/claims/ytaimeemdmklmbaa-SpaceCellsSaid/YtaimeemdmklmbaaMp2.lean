/- 'm[x]++' and its like at a map that the call has made itself: the entry is found or made, the element is read, the entry is written. -/
import Derived.Test.YtaimeemdmklmbaaMp
import Derived.WideKeyEntry
import Derived.WideKeyElems
set_option linter.all false
namespace Go.Proofs.Ytaimeemdmklmbaa
open Go.RowKit
open Go.ChangeMaps (setBlock heap_setBlock_same heap_setBlock_other)
open Go.WideElems (Fit entry_then_store)
open Go.WideMaps (KeyLaw)

theorem setBlock_twice (w : World) (b : Nat) (o o' : Obj) : setBlock (setBlock w b o) b o' = setBlock w b o' := by simp [setBlock]
theorem grownBy_setBlock (w : World) (b : Nat) (o : Obj) : w.grownBy (setBlock w b o) (some b) :=
  ⟨rfl, rfl, rfl, by simp [setBlock], fun i _ hi => heap_setBlock_other' w b o i (fun e => hi (by rw [e]))⟩
where heap_setBlock_other' (w : World) (b : Nat) (o : Obj) (i : Nat) (h : i ≠ b) : (setBlock w b o).heap[i]? = w.heap[i]? := by
        simp [setBlock, Array.getElem?_setIfInBounds, Ne.symm h]

section
variable {κ ν : Type} [DecidableEq κ] {w : World} {P : Program} {k e t : TypeId} {ek : κ → Value} {ev : ν → Value} {b n m : Nat} {f : κ → Option ν}
theorem MapIs.bump (h : MapIs w P k ek ev b n f m) (K : KeyLaw P k) (ht : P.underlying t = some (.map k e)) (z0 : ν) (hz : ∀ u : World, (zeroValue e).run P u = .ok (ev z0) u) (hn : n < maxLen) (hek : ∀ x y, ek x = ek y → x = y) (x : κ) (v : ν) {kl : Lit} (hx : keyOf P k (ek x) = some kl) :
    ∃ (c : Value) (st : Nat) (w1 w3 : World), (Instr.mapEntry t (.map (some b)) (ek x)).run P w = .ok (.tuple #[c, .int .i64 st]) w1 ∧ w.grownBy w1 (some b) ∧
      (Instr.lookup t (.map (some b)) (ek x) false).run P w = .ok (((f x).map ev).getD (ev z0)) w ∧
      (Instr.lookup t (.map (some b)) (ek x) false).run P w1 = .ok (((f x).map ev).getD (ev z0)) w1 ∧
      (Instr.entryStore t (.map (some b)) (.int .i64 st) (ev v)).run P w1 = .ok () w3 ∧ MapIs w3 P k ek ev b (n + 1) (fup f x v) (if (f x).isSome then m else m + 1) ∧ w.grownBy w3 (some b) := by
  have h0 := h
  obtain ⟨D, ⟨es, clock, hb, F, hs, hD⟩, hm, hf⟩ := h
  obtain ⟨v0, st, es1, clock1, hE, hcase, hS⟩ := entry_then_store K ht hz hb F hx
  obtain ⟨es', clock', hrun, hupd⟩ := hS (setBlock w b (.map es1 clock1)) (ev v) (heap_setBlock_same hb _)
  obtain ⟨w', hrun', hM', hg'⟩ := h0.store (Maps.Keyed.of_law K) ht hn hek x v hx
  rw [hupd] at hrun'
  rw [Result.ok.injEq] at hrun'
  obtain ⟨_, hw'⟩ := hrun'
  have hlook := h0.look (Maps.Keyed.of_law K) ht (hz w) x hx
  refine ⟨v0, st, _, _, hE, grownBy_setBlock _ _ _, hlook, ?_, hrun, ?_, ?_⟩
  · rcases K.find w hx es.toList F.keys with ⟨h1, h2⟩ | ⟨j, e0, h1, h2, h3⟩
    · have hE2 : (Instr.mapEntry t (.map (some b)) (ek x)).run P w = .ok (.tuple #[ev z0, goInt clock]) (setBlock w b (.map (es.push ⟨ek x, ev z0, clock⟩) (clock + 1))) := by
        simp [Instr.mapEntry, run_underlying ht, MapKept.run_getObj_map hb, K.check w false hx, h1, hz, MapKept.run_setObj_map _ hb, Result.andThen, setBlock]
      have hU : (Instr.mapUpdate t (.map (some b)) (ek x) (ev z0)).run P w = .ok () (setBlock w b (.map (es.push ⟨ek x, ev z0, clock⟩) (clock + 1))) := by
        simp [Instr.mapUpdate, run_underlying ht, MapKept.run_getObj_map hb, K.check w false hx, h1, MapKept.run_setObj_map _ hb, Result.andThen, setBlock]
      have hL : (Instr.lookup t (.map (some b)) (ek x) false).run P w = .ok (ev z0) w := by
        simp [Instr.lookup, run_underlying ht, MapKept.run_getObj_map hb, K.check w _ hx, h1, hz, Result.andThen]
      rw [hE2] at hE
      rw [Result.ok.injEq] at hE
      obtain ⟨_, hw1⟩ := hE
      obtain ⟨w2, hrun2, hM2, _⟩ := h0.store (Maps.Keyed.of_law K) ht hn hek x z0 hx
      rw [hU] at hrun2
      rw [Result.ok.injEq] at hrun2
      obtain ⟨_, hw2⟩ := hrun2
      have h5 := hM2.look (Maps.Keyed.of_law K) ht (hz w2) x hx
      rw [fup_same, ← hw2, hw1] at h5
      rw [hL] at hlook
      rw [Result.ok.injEq] at hlook
      obtain ⟨hv, _⟩ := hlook
      rw [← hv]
      simpa using h5
    · have hE2 : (Instr.mapEntry t (.map (some b)) (ek x)).run P w = .ok (.tuple #[e0.val, goInt e0.born]) (setBlock w b (.map es clock)) := by
        have hj : es[j]? = some e0 := by simpa using h2
        have hsame : es.modify j (fun e => { e with key := ek x }) = es := by
          apply Array.ext'
          rw [Array.toList_modify, Go.ChangeMaps.modify_eq_set _ _ _ _ h2]
          have : ({ e0 with key := ek x } : MapEntry) = e0 := by rw [← h3]
          rw [this]
          exact Go.WideElems.set_self _ _ _ h2
        simp [Instr.mapEntry, run_underlying ht, MapKept.run_getObj_map hb, K.check w false hx, h1, hj, h3, K.stays w hx, hsame, MapKept.run_setObj_map _ hb, Result.andThen, setBlock]
      rw [hE2] at hE
      rw [Result.ok.injEq] at hE
      obtain ⟨_, hw1⟩ := hE
      have hM1 : MapIs (setBlock w b (.map es clock)) P k ek ev b n f m := ⟨D, ⟨es, clock, heap_setBlock_same hb _, F, hs, hD⟩, hm, hf⟩
      rw [hw1] at hM1
      exact hM1.look (Maps.Keyed.of_law K) ht (hz _) x hx
  · rw [setBlock_twice, hw']; exact hM'
  · rw [setBlock_twice, hw']; exact hg'
end

/-- How often each is there. -/
def cntF {κ : Type} [DecidableEq κ] (l : List κ) (x : κ) : Option Int := if x ∈ l then some (l.count x) else none
theorem cntF_get {κ : Type} [DecidableEq κ] (l : List κ) (x : κ) : (cntF l x).getD 0 = l.count x := by
  unfold cntF
  split
  · rfl
  · rename_i h; rw [List.count_eq_zero_of_not_mem h]; rfl
theorem cntF_put {κ : Type} [DecidableEq κ] (l : List κ) (x : κ) : fup (cntF l) x ((l.count x : Int) + 1) = cntF (l ++ [x]) := by
  funext y
  unfold fup cntF
  by_cases h : y = x
  · subst h; simp
  · rw [if_neg h]
    have h1 : (y ∈ l ++ [x]) = (y ∈ l) := by simp [h]
    have h2 : (l ++ [x]).count y = l.count y := by rw [List.count_append, List.count_singleton]; simp [Ne.symm h]
    rw [h2]
    simp only [h1]
theorem cntF_nil {κ : Type} [DecidableEq κ] : cntF ([] : List κ) = fun _ => none := by funext x; simp [cntF]
theorem count_le {κ : Type} [DecidableEq κ] (l : List κ) (x : κ) : l.count x ≤ l.length := List.count_le_length
end Go.Proofs.Ytaimeemdmklmbaa
