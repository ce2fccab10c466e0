/- Plain lists of cells: in ascending order, each once. -/
import Derived.Test.YtaimeemdmklmbaaBase
set_option linter.all false
namespace Go.Proofs.Ytaimeemdmklmbaa

/-- Two whole numbers: a cell, a move, a link. -/
structure P2 where
  x : Int
  y : Int
  deriving DecidableEq, Inhabited
def P2.enc (c : P2) : List Value := [.int .i64 c.x, .int .i64 c.y]

/-- A cell comes ahead of another one. -/
def lt2 (a b : P2) : Bool := decide (a.x < b.x ∨ a.x = b.x ∧ a.y < b.y)
theorem lt2_iff {a b : P2} : lt2 a b = true ↔ (a.x < b.x ∨ a.x = b.x ∧ a.y < b.y) := by simp [lt2]
theorem lt2_irrefl (a : P2) : lt2 a a = false := by simp [lt2]
theorem lt2_trans {a b c : P2} (h1 : lt2 a b = true) (h2 : lt2 b c = true) : lt2 a c = true := by rw [lt2_iff] at *; omega
theorem P2.ext' {a b : P2} (hx : a.x = b.x) (hy : a.y = b.y) : a = b := by cases a; cases b; simp_all
theorem P2.ne {a b : P2} (h : a ≠ b) : a.x ≠ b.x ∨ a.y ≠ b.y := by
  by_cases hx : a.x = b.x
  · exact .inr fun hy => h (P2.ext' hx hy)
  · exact .inl hx
theorem lt2_total {a b : P2} (h : a ≠ b) : lt2 a b = true ∨ lt2 b a = true := by
  have := P2.ne h
  rw [lt2_iff, lt2_iff]; omega
theorem lt2_asymm {a b : P2} (h : lt2 a b = true) : lt2 b a = false := by
  cases hb : lt2 b a
  · rfl
  · exact absurd (lt2_trans h hb) (by rw [lt2_irrefl]; simp)

/-- In ascending order, each once. -/
def Up (l : List P2) : Prop := l.Pairwise fun a b => lt2 a b = true
theorem up_unique : ∀ {l m : List P2}, Up l → Up m → (∀ x, x ∈ l ↔ x ∈ m) → l = m
  | [], [], _, _, _ => rfl
  | [], b :: m, _, _, h => absurd ((h b).2 (by simp)) (by simp)
  | a :: l, [], _, _, h => absurd ((h a).1 (by simp)) (by simp)
  | a :: l, b :: m, h1, h2, h => by
    obtain ⟨p1, q1⟩ := List.pairwise_cons.1 h1
    obtain ⟨p2, q2⟩ := List.pairwise_cons.1 h2
    have hab : a = b := by
      by_cases hab : a = b
      · exact hab
      · have ha : a ∈ m := by
          rcases List.mem_cons.1 ((h a).1 (by simp)) with e | e
          · exact absurd e hab
          · exact e
        have hb : b ∈ l := by
          rcases List.mem_cons.1 ((h b).2 (by simp)) with e | e
          · exact absurd e.symm hab
          · exact e
        have := lt2_asymm (p1 b hb)
        rw [p2 a ha] at this
        cases this
    subst hab
    rw [up_unique q1 q2 fun x => ?_]
    constructor
    · intro hx
      rcases List.mem_cons.1 ((h x).1 (by simp [hx])) with e | e
      · subst e; have := p1 x hx; rw [lt2_irrefl] at this; cases this
      · exact e
    · intro hx
      rcases List.mem_cons.1 ((h x).2 (by simp [hx])) with e | e
      · subst e; have := p2 x hx; rw [lt2_irrefl] at this; cases this
      · exact e

/-- A cell is put where it belongs, if it is not there. -/
def put2 (c : P2) : List P2 → List P2
  | [] => [c]
  | x :: r => if lt2 x c then x :: put2 c r else if x = c then x :: r else c :: x :: r
theorem put2_mem (c x : P2) : ∀ l, x ∈ put2 c l ↔ x = c ∨ x ∈ l
  | [] => by simp [put2]
  | y :: r => by
    have := put2_mem c x r
    unfold put2
    split
    · simp only [List.mem_cons, this]
      constructor <;> (intro h; rcases h with h | h | h <;> simp [h])
    · split
      · rename_i h; subst h
        simp only [List.mem_cons]
        constructor
        · intro h; exact .inr h
        · intro h; rcases h with h | h
          · exact .inl h
          · exact h
      · simp only [List.mem_cons]
theorem put2_up (c : P2) : ∀ l, Up l → Up (put2 c l)
  | [], _ => by simp [put2, Up]
  | y :: r, h => by
    obtain ⟨p, q⟩ := List.pairwise_cons.1 h
    unfold put2
    split
    · rename_i hlt
      refine List.pairwise_cons.2 ⟨fun z hz => ?_, put2_up c r q⟩
      rcases (put2_mem c z r).1 hz with e | e
      · rw [e]; exact hlt
      · exact p z e
    · rename_i hlt
      split
      · exact h
      · rename_i hne
        have hcy : lt2 c y = true := by
          rcases lt2_total hne with e | e
          · exact absurd e hlt
          · exact e
        refine List.pairwise_cons.2 ⟨fun z hz => ?_, h⟩
        rcases List.mem_cons.1 hz with e | e
        · rw [e]; exact hcy
        · exact lt2_trans hcy (p z e)

/-- Cells in ascending order, each once. -/
def sorted2 (l : List P2) : List P2 := l.foldl (fun acc c => put2 c acc) []
theorem sorted2_aux : ∀ (l acc : List P2), Up acc → Up (l.foldl (fun acc c => put2 c acc) acc) ∧ ∀ x, x ∈ l.foldl (fun acc c => put2 c acc) acc ↔ x ∈ acc ∨ x ∈ l
  | [], acc, h => ⟨h, by simp⟩
  | c :: l, acc, h => by
    obtain ⟨h1, h2⟩ := sorted2_aux l (put2 c acc) (put2_up c acc h)
    refine ⟨h1, fun x => ?_⟩
    rw [List.foldl_cons, h2, put2_mem, List.mem_cons]
    constructor
    · rintro ((h | h) | h) <;> simp [h]
    · rintro (h | h | h) <;> simp [h]
theorem sorted2_up (l : List P2) : Up (sorted2 l) := (sorted2_aux l [] List.Pairwise.nil).1
theorem sorted2_mem (l : List P2) (x : P2) : x ∈ sorted2 l ↔ x ∈ l := by
  have := (sorted2_aux l [] List.Pairwise.nil).2 x
  simpa [sorted2] using this
theorem sorted2_snoc (l : List P2) (c : P2) : sorted2 (l ++ [c]) = put2 c (sorted2 l) := by simp [sorted2]
theorem up_sorted2 {l m : List P2} (h1 : Up l) (h2 : ∀ x, x ∈ l ↔ x ∈ m) : l = sorted2 m := up_unique h1 (sorted2_up m) fun x => (h2 x).trans (sorted2_mem m x).symm
theorem sorted2_congr {l m : List P2} (h : ∀ x, x ∈ l ↔ x ∈ m) : sorted2 l = sorted2 m := up_sorted2 (sorted2_up l) fun x => (sorted2_mem l x).trans (h x)

/-- An element is written behind a list, if it is not its last one. -/
def cpush (acc : List P2) (x : P2) : List P2 := if acc.getLast? = some x then acc else acc ++ [x]
/-- Neighbours that are the same are written once. -/
def cmpt (l : List P2) : List P2 := l.foldl cpush []
theorem cmpt_snoc (l : List P2) (c : P2) : cmpt (l ++ [c]) = cpush (cmpt l) c := by simp [cmpt]
theorem cmpt_last_aux : ∀ (r acc : List P2), (r.foldl cpush acc).getLast? = (acc ++ r).getLast?
  | [], acc => by simp
  | x :: r, acc => by
    rw [List.foldl_cons, cmpt_last_aux r]
    unfold cpush
    split
    · rename_i h
      cases r with
      | nil => simp [h]
      | cons y s => simp
    · simp
theorem cmpt_last (l : List P2) : (cmpt l).getLast? = l.getLast? := by simpa [cmpt] using cmpt_last_aux l []
theorem cmpt_len_aux : ∀ (r acc : List P2), (r.foldl cpush acc).length ≤ acc.length + r.length
  | [], acc => by simp
  | x :: r, acc => by
    have h := cmpt_len_aux r (cpush acc x)
    have h2 : (cpush acc x).length ≤ acc.length + 1 := by unfold cpush; split <;> simp
    simp only [List.foldl_cons, List.length_cons]
    omega
theorem cmpt_len (l : List P2) : (cmpt l).length ≤ l.length := by simpa [cmpt] using cmpt_len_aux l []
theorem cmpt_aux : ∀ (r acc : List P2), Up acc → (∀ a ∈ acc, ∀ b ∈ r, lt2 b a = false) → r.Pairwise (fun a b => lt2 b a = false) → Up (r.foldl cpush acc) ∧ ∀ x, x ∈ r.foldl cpush acc ↔ x ∈ acc ∨ x ∈ r
  | [], acc, h, _, _ => ⟨h, by simp⟩
  | x :: r, acc, h, hb, hp => by
    obtain ⟨p, q⟩ := List.pairwise_cons.1 hp
    have key : Up (cpush acc x) ∧ ∀ y, y ∈ cpush acc x ↔ y ∈ acc ∨ y = x := by
      unfold cpush
      split
      · rename_i hl
        have hx : x ∈ acc := List.mem_of_getLast? hl
        exact ⟨h, fun y => ⟨.inl, fun hy => by rcases hy with hy | rfl <;> assumption⟩⟩
      · rename_i hl
        refine ⟨?_, by simp⟩
        refine List.pairwise_append.2 ⟨h, by simp, fun a ha b hb' => ?_⟩
        obtain rfl : b = x := by simpa using hb'
        by_cases hab : a = b
        · subst hab
          exfalso
          have hne : acc ≠ [] := List.ne_nil_of_mem ha
          have hz := hb (acc.getLast hne) (List.getLast_mem hne) a (by simp)
          obtain ⟨s, t, rfl⟩ := List.append_of_mem ha
          by_cases ht : t = []
          · subst ht; simp at hl
          · have h3 := (List.pairwise_append.1 h).2.1
            have h4 := (List.pairwise_cons.1 h3).1 (t.getLast ht) (List.getLast_mem ht)
            rw [List.getLast_append_of_ne_nil _ (by simp), List.getLast_cons ht] at hz
            rw [h4] at hz
            cases hz
        · rcases lt2_total hab with e | e
          · exact e
          · have := hb a ha b (by simp)
            rw [e] at this; cases this
    obtain ⟨h1, h2⟩ := cmpt_aux r (cpush acc x) key.1 (fun a ha b hb' => by
      rcases (key.2 a).1 ha with e | e
      · exact hb a e b (by simp [hb'])
      · rw [e]; exact p b hb') q
    refine ⟨h1, fun y => ?_⟩
    rw [List.foldl_cons, h2, key.2, List.mem_cons]
    constructor
    · rintro ((h | h) | h) <;> simp [h]
    · rintro (h | h | h) <;> simp [h]
/-- What sorting, and then writing neighbours once, comes to. -/
theorem cmpt_sort (l : List P2) : cmpt (l.mergeSort fun x y => !lt2 y x) = sorted2 l := by
  have hs := List.pairwise_mergeSort (le := fun x y : P2 => !lt2 y x) (fun a b c h1 h2 => by
    simp only [Bool.not_eq_true'] at *
    cases hca : lt2 c a
    · rfl
    · exfalso
      by_cases hab : a = b
      · subst hab; rw [hca] at h2; cases h2
      · rcases lt2_total hab with e | e
        · rw [lt2_trans hca e] at h2; cases h2
        · rw [e] at h1; cases h1) (fun a b => by
    cases hab : lt2 a b
    · simp
    · simp [lt2_asymm hab]) l
  obtain ⟨h1, h2⟩ := cmpt_aux (l.mergeSort fun x y => !lt2 y x) [] List.Pairwise.nil (by simp) (hs.imp fun h => by simpa using h)
  exact up_sorted2 h1 fun x => (h2 x).trans (by simp)
end Go.Proofs.Ytaimeemdmklmbaa
