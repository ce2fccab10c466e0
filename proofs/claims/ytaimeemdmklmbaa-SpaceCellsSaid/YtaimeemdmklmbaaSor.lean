/- The library's sort at a slice that the call owns. -/
import Derived.Test.YtaimeemdmklmbaaKit
import Derived.Shelf.SlSortCmp.NoneTotal
set_option linter.all false
namespace Go.Proofs.Ytaimeemdmklmbaa
open Go.RowKit Go.Shelf
open Go.Sort (grow heap_grow_old putRow putCells mapBlock SWO flatK get_flatK HoldsK putRowK)

section
variable {α : Type} [Inhabited α] {base : Nat} {w w' : World} {E k : Nat} {enc : α → List Value} {v : Value} {xs ys : List α}
theorem flat_len (hk : ∀ x, (enc x).length = k) : ∀ xs : List α, (xs.flatMap enc).length = xs.length * k
  | [] => by simp
  | x :: r => by rw [List.flatMap_cons, List.length_append, hk, flat_len hk r, List.length_cons, Nat.add_mul]; omega
theorem flat_at (hk : ∀ x, (enc x).length = k) (xs : List α) {t : Nat} (ht : t < xs.length * k) : (xs.flatMap enc)[t]? = some ((enc xs[t / k]!)[t % k]!) := by
  have hkp : 0 < k := by
    rcases Nat.eq_zero_or_pos k with h | h
    · subst h; simp at ht
    · exact h
  have h1 := flat_get hk xs (t / k) (t % k) ((Nat.div_lt_iff_lt_mul hkp).2 ht) (Nat.mod_lt _ hkp)
  rwa [Nat.div_add_mod' t k] at h1
theorem size_flatK (enc : α → List Value) (k : Nat) (d : Array α) : (flatK enc k d).size = d.size * k := by simp [flatK]
theorem take_put (hk : ∀ x, (enc x).length = k) (ys : List α) (cur : Array Value) (hs : ys.length * k ≤ cur.size) : (putCells id 0 (flatK enc k ys.toArray) cur).toList.take (ys.length * k) = ys.flatMap enc := by
  apply List.ext_getElem?
  intro t
  by_cases ht : t < ys.length * k
  · rw [List.getElem?_take, if_pos ht, flat_at hk ys ht, Array.getElem?_toList]
    unfold putCells
    rw [Array.getElem?_mapIdx, Array.getElem?_eq_getElem (by omega), Option.map_some, size_flatK, if_pos (by simp; omega), Nat.sub_zero]
    have := get_flatK enc k ys.toArray t (by simpa using ht)
    simp only [id_eq]
    rw [this]
    simp
  · rw [List.getElem?_eq_none (by rw [List.length_take]; omega), List.getElem?_eq_none (by rw [flat_len hk]; omega)]

/-- What is owned can be handed to the sort. -/
theorem Own.holds (h : Own base w E k enc v xs) (hk : ∀ x, (enc x).length = k) (hx : xs ≠ []) : ∃ g cap, v = .slice (some ⟨g, 0, none⟩) xs.length cap ∧ base ≤ g ∧ g < w.heap.size ∧ HoldsK enc k w g 0 xs.toArray := by
  obtain ⟨hl, ⟨rfl, h0⟩ | ⟨g, cap, cur, rfl, hb, hg, hn, hm, hs, ht⟩⟩ := h
  · exact absurd (List.eq_nil_of_length_eq_zero h0) hx
  · refine ⟨g, cap, rfl, hb, (Array.getElem?_eq_some_iff.1 hg).1, fun j hj => ?_⟩
    rw [size_flatK] at hj
    have hj' : j < xs.length * k := by simpa using hj
    refine ⟨?_, by simp [World.frozen?, hg]⟩
    have h1 := flat_at hk xs hj'
    rw [← ht, List.getElem?_take, if_pos hj'] at h1
    rw [get_flatK enc k xs.toArray j hj]
    simp only [World.cell?, hg, Nat.zero_add, id_eq]
    simpa using h1
/-- Behind the sort. -/
theorem Own.sorted (h : Own base w E k enc v xs) (hk : ∀ x, (enc x).length = k) {g cap : Nat} (hv : v = .slice (some ⟨g, 0, none⟩) xs.length cap) (hl : ys.length = xs.length) (n : Nat) (os : Array Obj) :
    Own base (sortWorldK enc k w g 0 n ys.toArray os) E k enc v ys ∧ Below base w (sortWorldK enc k w g 0 n ys.toArray os) := by
  obtain ⟨hl', ⟨rfl, h0⟩ | ⟨g', cap', cur, rfl, hb, hg, hn, hm, hs, ht⟩⟩ := h
  · cases hv
  · obtain ⟨rfl, rfl⟩ : g' = g ∧ cap' = cap := by simpa using hv
    have hlt := (Array.getElem?_eq_some_iff.1 hg).1
    have hle : ys.length * k ≤ cur.size := by rw [hs, hl]; exact Nat.mul_le_mul_right k hn
    constructor
    · refine ⟨by rw [flat_len hk], .inr ⟨g', cap', putCells id 0 (flatK enc k ys.toArray) cur, by rw [hl], hb, ?_, by rw [hl]; exact hn, hm, by simp [putCells, hs], take_put hk ys cur hle⟩⟩
      unfold sortWorldK
      rw [heap_grow_old _ _ (by simpa [putRowK, putRow, mapBlock, Sort.ahead] using hlt)]
      simp only [putRowK, putRow, mapBlock, Array.getElem?_modify, if_true]
      rw [show (Sort.ahead w n).heap = w.heap from rfl, hg]
      rfl
    · unfold sortWorldK
      refine ⟨rfl, rfl, rfl, by simp [grow, putRowK, putRow, mapBlock, Sort.ahead], fun j hj => ?_⟩
      rw [heap_grow_old _ _ (by simp [putRowK, putRow, mapBlock, Sort.ahead]; omega)]
      simp only [putRowK, putRow, mapBlock, Array.getElem?_modify]
      rw [if_neg (by omega)]
      rfl
end

/-- A comparison that only lays blocks of its own. -/
def CmpIs {α : Type} (P : Program) (g : Nat) (enc : α → List Value) (cf : α → α → Int) : Prop :=
  ∀ (x y : α) (W : World), Calls P g #[.agg (enc x).toArray, .agg (enc y).toArray] W fun e w' => e = .returned (.int .i64 (cf x y)) ∧ ∃ q os', w' = grow (W.drewN q) os'
theorem CmpIs.lays {α : Type} [Inhabited α] {P : Program} {g : Nat} {enc : α → List Value} {cf : α → α → Int} (h : CmpIs P g enc cf) (k blk off size : Nat) (w : World) : CmpLays P g #[] enc k cf blk off size w :=
  fun m os dk _ x y => by simpa using h x y _
theorem grow_alloc2 (w : World) (a b : Obj) (q : Nat) : ((w.alloc a).alloc b).drewN q = grow (w.drewN q) #[a, b] := by
  rw [Go.Sort.alloc_eq_grow, Go.Sort.alloc_eq_grow]
  show grow (grow (w.drewN q) #[a]) #[b] = _
  rw [Go.Sort.grow_grow]
  rfl

/-- slices.SortFunc at a slice that is owned. -/
theorem sort_own {α : Type} [Inhabited α] {P : Program} {ρ : Ren} (L : SlLaysF0.n6 P ρ) (k : Nat) (aE : ∀ w, (isAgg (ρ.t 24)).run P w = .ok true w) (zE : ∀ w, (Go.sizeOf (ρ.t 24)).run P w = .ok k w) (enc : α → List Value) (hk : ∀ x, (enc x).length = k) (h1 : ∀ x, ∀ v ∈ enc x, v.oneCell' = true) (cf : α → α → Int) (hO : SWO (ltOf cf)) (g : Nat)
    (eg : ∀ args w, (callFunc g args).run P w = .ok (.enter g args) w) (hc : CmpIs P g enc cf) {base E : Nat} {v : Value} {xs : List α} (w : World) (h : Own base w E k enc v xs) (hsz : xs.length ≤ 1000000) :
    Calls P (ρ.f 6) #[v, .func (.func g) #[] #[]] w fun e w' => e = .returned (.tuple #[]) ∧ ∃ ys : List α, ys.Perm xs ∧ ys.Pairwise (fun x y => ltOf cf y x = false) ∧ Own base w' E k enc v ys ∧ Below base w w' := by
  by_cases hx : xs = []
  · subst hx
    have hv : ∃ p cap, v = .slice p 0 cap := by
      obtain ⟨p, cap, hv, _⟩ := h.row hk
      exact ⟨p, cap, hv⟩
    obtain ⟨p, cap, rfl⟩ := hv
    refine (AnyF.slices_SortFunc_none L p cap _ w).mono ?_
    rintro e w' ⟨rfl, rfl⟩
    exact ⟨rfl, [], List.Perm.refl _, List.Pairwise.nil, h, Below.refl _ _⟩
  · obtain ⟨b, cap, hv, hb, hlt, hH⟩ := h.holds hk hx
    have hcall := AnyQ.slices_SortFunc L k aE zE enc hk h1 cf hO g #[] b 0 cap xs.toArray w eg (hc.lays k b 0 _ w) hH hlt (by simp; omega)
    rw [hv]
    refine (show Calls P (ρ.f 6) #[.slice (some ⟨b, 0, none⟩) xs.length cap, .func (.func g) #[] #[]] w _ by simpa using hcall).mono ?_
    rintro e w' ⟨rfl, d', hp, hs, n, os, rfl⟩
    obtain ⟨p1, p2, p3⟩ := hp
    have hlen : d'.toList.length = xs.length := by simpa using p1
    have e1 : d'.extract 0 xs.length = d' := by rw [← hlen]; simp
    have e2 : xs.toArray.extract 0 xs.length = xs.toArray := by simp
    rw [e1, e2] at p3
    have hfin := Own.sorted (ys := d'.toList) h hk hv hlen n os
    rw [Array.toArray_toList, ← hv] at *
    refine ⟨rfl, d'.toList, by simpa using p3, ?_, hfin⟩
    rw [List.pairwise_iff_getElem]
    intro i j hi hj hij
    have := hs i j (Nat.zero_le _) hij (by rw [← hlen]; exact hj)
    rw [getElem!_pos d' i (by simpa using hi), getElem!_pos d' j (by simpa using hj)] at this
    simpa using this
end Go.Proofs.Ytaimeemdmklmbaa
