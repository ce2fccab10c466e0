/- Which variables and recurrences are valid: the functions of package rec. -/
import Derived.Test.YtaimeemdmklmbaaCount
import Derived.Test.YtaimeemdmklmbaaMp
import Derived.Laws.EntriesVeiled
import Derived.Deep.WholeRow
set_option linter.all false
namespace Go.Proofs.Ytaimeemdmklmbaa
open Go.RowKit Go.Shelf

/-- How many arguments an operation needs; 0: there is no such operation. -/
def needs (op : Int) : Nat := if op = 1 then 1 else if op = 5 then 3 else if 2 ≤ op ∧ op ≤ 7 then 2 else 0
/-- An argument is valid among so many variables in n dimensions. -/
def agB (vars n : Int) (a : Ag) : Bool := flatB a.p.x a.p.y a.p.z n 3 && decide (0 ≤ a.v ∧ a.v ≤ vars - 1)
/-- A name is one small letter. -/
def nameB (s : ByteArray) : Bool := if h : s.size = 1 then decide (97 ≤ (s[0]).toNat ∧ (s[0]).toNat ≤ 122) else false
/-- The form of first values is valid. -/
def initB (n a b c d : Int) : Bool := decide (0 ≤ a ∧ a ≤ 10006) && decide (0 ≤ b ∧ b ≤ 10006) && decide (0 ≤ c ∧ c ≤ 10006) && decide (0 ≤ d ∧ d ≤ 10006) && (decide (1 ≤ n) || b == 0) && (decide (2 ≤ n) || c == 0) && (decide (3 ≤ n) || d == 0)
/-- A variable is valid among so many in n dimensions. -/
def varB (vars n : Int) (v : Vr) : Bool := decide (1 ≤ v.op ∧ v.op ≤ 7) && nameB v.name && decide (v.args.length = needs v.op) && initB n v.i0 v.i1 v.i2 v.i3 && v.args.all (agB vars n)
/-- Variables are valid, and no two have one name, nor one of those that were seen. -/
def scanB (vars n : Int) : List ByteArray → List Vr → Bool
  | _, [] => true
  | seen, v :: r => varB vars n v && !decide (v.name ∈ seen) && scanB vars n (seen ++ [v.name]) r
/-- A recurrence is valid. -/
def recB (n : Int) (l : List Iq) (vs : List Vr) : Bool := domB n l && decide ((ptsOf n l).length ≤ 1000) && decide (1 ≤ vs.length ∧ vs.length ≤ 4) && scanB vs.length n [] vs

/-- A whole variable that has just been made is stored into: for the walk; behind it the world is any in which the block holds what was stored. -/
theorem wpList_store_all {P : Program} {ops : Array Oper} {rest : List Oper} {o : Oper} {a : Act} {Q : Exit → Act → World → Prop} {w : World} (hg : o.guard = none) (t : TypeId) (p x : Operand) (hop : o.op = .store t p x) (w0 : World) (c c' : Array Value) (hw : w = w0.alloc (.cells c t)) (B : Nat) (hp : a.eval p = .pointer (some ⟨B, 0, none⟩)) (hB : w0.heap.size = B)
    (hx : a.eval x = .agg c') (hi : (P.info? t).map (·.size) = some c'.size) (ho : c.size = c'.size) (h1 : c'.all (·.oneCell') = true)
    (hK : ∀ w', w'.heap[B]? = some (.cells c' t (0, 0)) → Below B w0 w' → w'.heap.size = B + 1 → wpList P ops Q rest (a.put o.dst undef) w') : wpList P ops Q (o :: rest) a w := by
  subst hw
  subst hB
  refine wpList_plain hg fun K' hK' => ?_
  have hrun := run_storeAt_new (P := P) w0 t c c' hi ho h1
  unfold Oper.wp
  simp [execOp, hop, hp, hx, hrun, Result.andThen]
  exact hK' _ _ (hK _ (World.alloc_heap_new w0 _) ((Below.refl _ w0).alloc (Nat.le_refl _) _) (by simp))

/-- What the table of operations has. -/
def kinds : Array Value := #[.string ⟨#[]⟩, .int .i64 0, .nilFunc, .string ⟨#[99, 111, 112, 121]⟩, .int .i64 1, .func (.func 114) #[] #[], .string ⟨#[97, 100, 100]⟩, .int .i64 2, .func (.func 115) #[] #[], .string ⟨#[115, 117, 98]⟩, .int .i64 2, .func (.func 116) #[] #[], .string ⟨#[109, 117, 108]⟩, .int .i64 2, .func (.func 117) #[] #[], .string ⟨#[102, 109, 97]⟩, .int .i64 3, .func (.func 118) #[] #[], .string ⟨#[109, 97, 120]⟩, .int .i64 2, .func (.func 119) #[] #[], .string ⟨#[109, 105, 110]⟩, .int .i64 2, .func (.func 120) #[] #[]]
theorem kinds_at (op : Int) (h : 1 ≤ op ∧ op ≤ 7) : ∃ s f, kinds[op.toNat * 3]? = some (.string s) ∧ kinds[op.toNat * 3 + 1]? = some (.int .i64 (needs op)) ∧ kinds[op.toNat * 3 + 2]? = some (.func (.func f) #[] #[]) := by
  have h7 : op = 1 ∨ op = 2 ∨ op = 3 ∨ op = 4 ∨ op = 5 ∨ op = 6 ∨ op = 7 := by omega
  rcases h7 with rfl | rfl | rfl | rfl | rfl | rfl | rfl <;> exact ⟨_, _, rfl, rfl, rfl⟩
theorem kinds_cells : kinds.all (·.oneCell') = true := by simp [kinds, Value.oneCell']
set_option maxRecDepth 100000 in
theorem infoKinds : (Try.prog.info? 153).map (·.size) = some 24 := by kernel_rfl

set_option maxRecDepth 100000 in
set_option maxHeartbeats 4000000 in
theorem kindOf_yes (op : Int) (w : World) (h : 1 ≤ op ∧ op ≤ 7) : Calls Try.prog 91 #[.int .i64 op] w fun e w' => ∃ s f, e = .returned (.tuple #[.agg #[.string s, .int .i64 (needs op), .func (.func f) #[] #[]], .bool true]) ∧ Below w.heap.size w w' := by
  obtain ⟨s, f, k0, k1, k2⟩ := kinds_at op h
  obtain ⟨h1, h2⟩ := h
  have K0 := Lib.hid k0
  have K1 := Lib.hid k1
  have K2 := Lib.hid k2
  clear k0 k1 k2
  go_enter Try.func91, Try.ntmps91
  go_wp2_with (first | (refine wpList_store_all rfl _ _ _ rfl _ _ kinds rfl (w.heap.size + 1) rfl (by simp) rfl infoKinds rfl kinds_cells ?_; intro w1 hb1 hB1 hs1; have c0 : w1.cell? ⟨w.heap.size + 1, op.toNat * 3, none⟩ = some (.string s) := (cell_of_row w1 (w.heap.size + 1) _ _ _ _ (by simpa using hb1)).trans K0.out; have c1 : w1.cell? ⟨w.heap.size + 1, op.toNat * 3 + 1, none⟩ = some (.int .i64 (needs op)) := (cell_of_row w1 (w.heap.size + 1) _ _ _ _ (by simpa using hb1)).trans K1.out; have c2 : w1.cell? ⟨w.heap.size + 1, op.toNat * 3 + 2, none⟩ = some (.func (.func f) #[] #[]) := (cell_of_row w1 (w.heap.size + 1) _ _ _ _ (by simpa using hb1)).trans K2.out; have r0 : w1.cell? ⟨w.heap.size, 0, none⟩ = some (.string ⟨#[]⟩) := (hB1.cell (p := ⟨w.heap.size, 0, none⟩) (by simp)).trans (by simp [go_sem]); have r1 : w1.cell? ⟨w.heap.size, 1, none⟩ = some (.int .i64 0) := (hB1.cell (p := ⟨w.heap.size, 1, none⟩) (by simp)).trans (by simp [go_sem]); have r2 : w1.cell? ⟨w.heap.size, 2, none⟩ = some .nilFunc := (hB1.cell (p := ⟨w.heap.size, 2, none⟩) (by simp)).trans (by simp [go_sem]); have g0 : w1.frozen? ⟨w.heap.size, 0, none⟩ = false := (hB1.frozen (p := ⟨w.heap.size, 0, none⟩) (by simp)).trans (by simp [go_sem]); have g1 : w1.frozen? ⟨w.heap.size, 1, none⟩ = false := (hB1.frozen (p := ⟨w.heap.size, 1, none⟩) (by simp)).trans (by simp [go_sem]); have g2 : w1.frozen? ⟨w.heap.size, 2, none⟩ = false := (hB1.frozen (p := ⟨w.heap.size, 2, none⟩) (by simp)).trans (by simp [go_sem]); clear hb1) | (go_at_call 66; refine (between_rec _ _ _ _).mono ?_; rintro e w' ⟨rfl, rfl⟩))
  have hB2 : Below w.heap.size w w1 := (by go_grown : Below w.heap.size w (w.alloc (.cells #[.string ⟨#[]⟩, .int .i64 0, .nilFunc] 134))).trans (hB1.mono (by omega))
  exact bodyPost_ret (v := .tuple #[.agg #[.string s, .int .i64 (needs op), .func (.func f) #[] #[]], .bool true]) (by simp [results, Try.results91, go_sem, r0, r1, r2]) rfl ⟨s, f, rfl, ((hB2.setCell (p := ⟨w.heap.size, 0, none⟩) (Nat.le_refl _) _).setCell (p := ⟨w.heap.size, 1, none⟩) (Nat.le_refl _) _).setCell (p := ⟨w.heap.size, 2, none⟩) (Nat.le_refl _) _⟩

set_option maxRecDepth 100000 in
set_option maxHeartbeats 4000000 in
theorem kindOf_no (op : Int) (w : World) (h : ¬ (1 ≤ op ∧ op ≤ 7)) : Calls Try.prog 91 #[.int .i64 op] w fun e w' => e = .returned (.tuple #[.agg #[.string ⟨#[]⟩, .int .i64 0, .nilFunc], .bool false]) ∧ Below w.heap.size w w' := by
  have hd : decide (1 ≤ op ∧ op ≤ 7) = false := decide_eq_false h
  have Hd := Lib.hid hd
  clear h hd
  go_enter Try.func91, Try.ntmps91
  go_wp2_with (first | (refine wpList_store_all rfl _ _ _ rfl _ _ kinds rfl (w.heap.size + 1) rfl (by simp) rfl infoKinds rfl kinds_cells ?_; intro w1 hb1 hB1 hs1; have r0 : w1.cell? ⟨w.heap.size, 0, none⟩ = some (.string ⟨#[]⟩) := (hB1.cell (p := ⟨w.heap.size, 0, none⟩) (by simp)).trans (by simp [go_sem]); have r1 : w1.cell? ⟨w.heap.size, 1, none⟩ = some (.int .i64 0) := (hB1.cell (p := ⟨w.heap.size, 1, none⟩) (by simp)).trans (by simp [go_sem]); have r2 : w1.cell? ⟨w.heap.size, 2, none⟩ = some .nilFunc := (hB1.cell (p := ⟨w.heap.size, 2, none⟩) (by simp)).trans (by simp [go_sem]); have g0 : w1.frozen? ⟨w.heap.size, 0, none⟩ = false := (hB1.frozen (p := ⟨w.heap.size, 0, none⟩) (by simp)).trans (by simp [go_sem]); have g1 : w1.frozen? ⟨w.heap.size, 1, none⟩ = false := (hB1.frozen (p := ⟨w.heap.size, 1, none⟩) (by simp)).trans (by simp [go_sem]); have g2 : w1.frozen? ⟨w.heap.size, 2, none⟩ = false := (hB1.frozen (p := ⟨w.heap.size, 2, none⟩) (by simp)).trans (by simp [go_sem]); clear hb1) | (go_at_call 66; refine (between_rec _ _ _ _).mono ?_; rintro e w' ⟨rfl, rfl⟩; rw [Hd.out]))
  have hB2 : Below w.heap.size w w1 := (by go_grown : Below w.heap.size w (w.alloc (.cells #[.string ⟨#[]⟩, .int .i64 0, .nilFunc] 134))).trans (hB1.mono (by omega))
  exact bodyPost_ret (v := .tuple #[.agg #[.string ⟨#[]⟩, .int .i64 0, .nilFunc], .bool false]) (by simp [results, Try.results91, go_sem, r0, r1, r2]) rfl ⟨rfl, ((hB2.setCell (p := ⟨w.heap.size, 0, none⟩) (Nat.le_refl _) _).setCell (p := ⟨w.heap.size, 1, none⟩) (Nat.le_refl _) _).setCell (p := ⟨w.heap.size, 2, none⟩) (Nat.le_refl _) _⟩

set_option maxHeartbeats 400000 in
theorem beyond1_rec (x : Int) (w : World) : Calls Try.prog 122 #[.int .i64 x] w fun e w' => e = .returned (.bool (x != 0)) ∧ Below w.heap.size w w' := by
  go_enter Try.func122, Try.ntmps122
  go_wp2
  go_ret
  exact ⟨rfl, Below.refl _ _⟩
set_option maxHeartbeats 400000 in
theorem far1_rec (x : Int) (w : World) : Calls Try.prog 95 #[.int .i64 x] w fun e w' => e = .returned (.bool (!decide (-3 ≤ x ∧ x ≤ 3))) ∧ Below w.heap.size w w' := by
  go_enter Try.func95, Try.ntmps95
  go_wp2_with (go_at_call 66; refine (between_rec _ _ _ _).mono ?_; rintro e w' ⟨rfl, rfl⟩)
  go_ret
  exact ⟨ret_bool (by simp), Below.refl _ _⟩

/-- A point has a coordinate beyond n that is not 0. -/
def beyB (n y z : Int) : Bool := !((decide (2 ≤ n) || y == 0) && (decide (3 ≤ n) || z == 0))
/-- A list of whole numbers lies in a block. -/
theorem row_of_cells {B b off : Nat} {w : World} {xs : List Int} (hb : b < B) (h : ∀ i, i < xs.length → w.cell? ⟨b, off + i, none⟩ = some (.int .i64 xs[i]!)) : Row B w (some ⟨b, off, none⟩) 1 intEnc xs := fun _ =>
  ⟨b, off, rfl, hb, fun i hi j hj => by
    obtain rfl : j = 0 := by omega
    simpa [intEnc] using h i hi⟩

set_option maxHeartbeats 1000000 in
theorem beyond_rec (x y z n : Int) (w : World) (hn : 1 ≤ n ∧ n ≤ 3) : Calls Try.prog 96 #[.agg #[.int .i64 x, .int .i64 y, .int .i64 z], .int .i64 n] w fun e w' => e = .returned (.bool (beyB n y z)) ∧ Below w.heap.size w w' := by
  obtain ⟨W0, hW0⟩ : ∃ W0, W0 = w.alloc (.cells #[.int .i64 x, .int .i64 y, .int .i64 z] 29) := ⟨_, rfl⟩
  have hb0 : Below w.heap.size w W0 := by rw [hW0]; go_grown
  have hsz : W0.heap.size = w.heap.size + 1 := by rw [hW0]; simp
  have c1 : W0.cell? ⟨w.heap.size, 1, none⟩ = some (.int .i64 y) := by rw [hW0]; simp [go_sem]
  have c2 : W0.cell? ⟨w.heap.size, 2, none⟩ = some (.int .i64 z) := by rw [hW0]; simp [go_sem]
  have hcall : ∀ (p : Option Addr) (c : Nat) (xs : List Int), xs.length ≤ 3 → Row W0.heap.size W0 p 1 intEnc xs → Calls Try.prog 94 #[.slice p xs.length c, .func (.func 122) #[] #[]] W0 fun e w' => e = .returned (.bool (xs.any (· != 0))) ∧ Below W0.heap.size W0 w' := fun p c xs h3 hr =>
    any_int0 (enters_of Try.func122 (by kernel_rfl) rfl) p c xs W0 _ (by omega) hr (fun W x _ _ => beyond1_rec x W)
  have h3 : n = 1 ∨ n = 2 ∨ n = 3 := by omega
  clear hn
  rcases h3 with rfl | rfl | rfl
  · have h := hcall (some ⟨w.heap.size, 1, none⟩) 2 [y, z] (by simp) (row_of_cells (by omega) (fun i hi => by
      match i, hi with
      | 0, _ => simpa using c1
      | 1, _ => simpa using c2
      | i + 2, hi => simp at hi; omega))
    rw [hW0] at h
    have H := Lib.hid h
    have hb : beyB 1 y z = [y, z].any (· != 0) := by simp [beyB, bne, Bool.not_and]
    have Hb := Lib.hid hb
    clear h hb c1 c2 hcall hsz
    go_enter Try.func96, Try.ntmps96
    go_wp2_with (go_at_call 94; refine (H.out).mono ?_; rintro e w1 ⟨rfl, hb⟩; rw [← hW0] at hb; have hb' : Below w.heap.size w w1 := via hb0 hb; clear hb)
    go_ret
    exact ⟨ret_bool (by rw [Hb.out]; simp), hb'⟩
  · have h := hcall (some ⟨w.heap.size, 2, none⟩) 1 [z] (by simp) (row_of_cells (by omega) (fun i hi => by
      match i, hi with
      | 0, _ => simpa using c2
      | i + 1, hi => simp at hi))
    rw [hW0] at h
    have H := Lib.hid h
    have hb : beyB 2 y z = [z].any (· != 0) := by simp [beyB, bne]
    have Hb := Lib.hid hb
    clear h hb c1 c2 hcall hsz
    go_enter Try.func96, Try.ntmps96
    go_wp2_with (go_at_call 94; refine (H.out).mono ?_; rintro e w1 ⟨rfl, hb⟩; rw [← hW0] at hb; have hb' : Below w.heap.size w w1 := via hb0 hb; clear hb)
    go_ret
    exact ⟨ret_bool (by rw [Hb.out]; simp), hb'⟩
  · have h := fun p => hcall p 0 [] (by simp) Row.nil
    rw [hW0] at h
    have H := Lib.hid h
    have hb : beyB 3 y z = ([] : List Int).any (· != 0) := by simp [beyB]
    have Hb := Lib.hid hb
    clear h hb c1 c2 hcall hsz
    go_enter Try.func96, Try.ntmps96
    go_wp2_with (go_at_call 94; refine (H.out _).mono ?_; rintro e w1 ⟨rfl, hb⟩; rw [← hW0] at hb; have hb' : Below w.heap.size w w1 := via hb0 hb; clear hb)
    go_ret
    exact ⟨ret_bool (by rw [Hb.out]; simp), hb'⟩

theorem agB_eq (vars n : Int) (a : Ag) (hn : 1 ≤ n ∧ n ≤ 3) : (!agB vars n a) = (([a.p.x, a.p.y, a.p.z].any fun x => !decide (-3 ≤ x ∧ x ≤ 3)) || beyB n a.p.y a.p.z || !decide (0 ≤ a.v ∧ a.v ≤ vars - 1)) := by
  have h1 : decide (1 ≤ n) = true := decide_eq_true hn.1
  unfold agB flatB beyB
  simp only [h1, Bool.true_or, Bool.and_true, List.any_cons, List.any_nil, Bool.or_false, Bool.not_and, Bool.not_not]
  cases decide (-3 ≤ a.p.x ∧ a.p.x ≤ 3) <;> cases decide (-3 ≤ a.p.y ∧ a.p.y ≤ 3) <;> cases decide (-3 ≤ a.p.z ∧ a.p.z ≤ 3) <;> simp

set_option maxHeartbeats 2000000 in
theorem arg1_rec (vars n : Int) (a : Ag) (Bv Bn : Nat) (w : World) (hn : 1 ≤ n ∧ n ≤ 3) (hv : 0 ≤ vars ∧ vars ≤ 10000) (hBv : Bv < w.heap.size) (hBn : Bn < w.heap.size) (hcv : w.cell? ⟨Bv, 0, none⟩ = some (.int .i64 vars)) (hcn : w.cell? ⟨Bn, 0, none⟩ = some (.int .i64 n)) :
    Calls Try.prog 93 #[.agg #[.int .i64 a.v, .int .i64 a.p.x, .int .i64 a.p.y, .int .i64 a.p.z], .pointer (some ⟨Bn, 0, none⟩), .pointer (some ⟨Bv, 0, none⟩)] w fun e w' => e = .returned (.bool (!agB vars n a)) ∧ Below w.heap.size w w' := by
  obtain ⟨W0, hW0⟩ : ∃ W0, W0 = w.alloc (.cells #[.int .i64 a.v, .int .i64 a.p.x, .int .i64 a.p.y, .int .i64 a.p.z] 69) := ⟨_, rfl⟩
  have hb0 : Below w.heap.size w W0 := by rw [hW0]; go_grown
  have hsz : W0.heap.size = w.heap.size + 1 := by rw [hW0]; simp
  have c0 : W0.cell? ⟨w.heap.size, 0, none⟩ = some (.int .i64 a.v) := by rw [hW0]; simp [go_sem]
  have c1 : W0.cell? ⟨w.heap.size, 1, none⟩ = some (.int .i64 a.p.x) := by rw [hW0]; simp [go_sem]
  have c2 : W0.cell? ⟨w.heap.size, 2, none⟩ = some (.int .i64 a.p.y) := by rw [hW0]; simp [go_sem]
  have c3 : W0.cell? ⟨w.heap.size, 3, none⟩ = some (.int .i64 a.p.z) := by rw [hW0]; simp [go_sem]
  have h := any_int0 (enters_of Try.func95 (by kernel_rfl) rfl) (some ⟨w.heap.size, 1, none⟩) 3 [a.p.x, a.p.y, a.p.z] W0 (fun x => !decide (-3 ≤ x ∧ x ≤ 3)) (by simp) (row_of_cells (by omega) (fun i hi => by
      match i, hi with
      | 0, _ => simpa using c1
      | 1, _ => simpa using c2
      | 2, _ => simpa using c3
      | i + 3, hi => simp at hi; omega)) (fun W x _ _ => far1_rec x W)
  have hag := agB_eq vars n a hn
  generalize hany : ([a.p.x, a.p.y, a.p.z].any fun x => !decide (-3 ≤ x ∧ x ≤ 3)) = far at h hag
  rw [hW0] at h
  have H := Lib.hid h
  have Hag := Lib.hid hag
  clear h hany hag
  go_enter Try.func93, Try.ntmps93
  have u0 : W0.cell? ⟨Bv, 0, none⟩ = some (.int .i64 vars) := (hb0.cell (p := ⟨Bv, 0, none⟩) hBv).trans hcv
  have u1 : W0.cell? ⟨Bn, 0, none⟩ = some (.int .i64 n) := (hb0.cell (p := ⟨Bn, 0, none⟩) hBn).trans hcn
  have HW0 := Lib.hid hW0
  clear hW0
  go_wp2_with fail
  refine (H.out).mono ?_
  rintro e w1 ⟨rfl, hb⟩
  rw [← HW0.out] at hb
  have hb1 : Below w.heap.size w w1 := via hb0 hb
  have d0 := (hb.cell (p := ⟨w.heap.size, 0, none⟩) (by simp; omega)).trans c0
  have d1 := (hb.cell (p := ⟨w.heap.size, 1, none⟩) (by simp; omega)).trans c1
  have d2 := (hb.cell (p := ⟨w.heap.size, 2, none⟩) (by simp; omega)).trans c2
  have d3 := (hb.cell (p := ⟨w.heap.size, 3, none⟩) (by simp; omega)).trans c3
  have v0 := (hb.cell (p := ⟨Bv, 0, none⟩) (by simp; omega)).trans u0
  have v1 := (hb.cell (p := ⟨Bn, 0, none⟩) (by simp; omega)).trans u1
  have hs1 : w.heap.size < w1.heap.size := by have := hb.size; omega
  have hs2 : Bv < w1.heap.size := by omega
  clear hb c0 c1 c2 c3 u0 u1 H hcv hcn
  cases hf : far
  · go_wp2_with (first | (go_at_call 96; refine (beyond_rec _ _ _ _ _ hn).mono ?_; rintro e w2 ⟨rfl, hb⟩; have hb2 : Below w.heap.size w w2 := via hb1 hb; obtain ⟨hcc, _⟩ := bcell hb; clear hb) | (go_at_call 66; refine (between_rec _ _ _ _).mono ?_; rintro e w' ⟨rfl, rfl⟩))
    all_goals (go_ret; exact ⟨ret_bool (by rw [Hag.out, hf]; simp_all), hb2⟩)
  · go_wp2
    go_ret
    exact ⟨ret_bool (by rw [Hag.out, hf]; rfl), hb1⟩
end Go.Proofs.Ytaimeemdmklmbaa
