/- The data of this program as plain Lean structures, what it means that a slice in memory holds a list of them, and small lemmas. -/
import Derived.Test.YtaimeemdmklmbaaProg
import Derived.WalkKit
import Derived.WalkLawsBesides
import Derived.WalkSpells
import Derived.Outline
import Derived.Handy
import Derived.Lib.Hide
set_option linter.all false
namespace Go.Proofs.Ytaimeemdmklmbaa
open Go.RowKit

instance decBytes : DecidableEq ByteArray := fun a b => decidable_of_iff (a.data = b.data) ⟨fun h => by cases a; cases b; simp_all, fun h => by rw [h]⟩
instance decMemBytes (x : ByteArray) (l : List ByteArray) : Decidable (x ∈ l) := @List.instDecidableMemOfLawfulBEq _ instBEqOfDecidableEq inferInstance x l
/-- Three whole numbers: a point, a shift, a direction, a form. -/
structure P3 where
  x : Int
  y : Int
  z : Int
  deriving DecidableEq, Inhabited
/-- An inequality. -/
structure Iq where
  a : P3
  b : Int
  deriving DecidableEq, Inhabited
/-- An argument. -/
structure Ag where
  v : Int
  p : P3
  deriving DecidableEq, Inhabited
/-- A variable, and where its arguments lie. -/
structure Vr where
  name : ByteArray
  op : Int
  ap : Option Addr
  ac : Nat
  args : List Ag
  i0 : Int
  i1 : Int
  i2 : Int
  i3 : Int
  deriving Inhabited

def P3.enc (p : P3) : List Value := [.int .i64 p.x, .int .i64 p.y, .int .i64 p.z]
def Iq.enc (q : Iq) : List Value := [.int .i64 q.a.x, .int .i64 q.a.y, .int .i64 q.a.z, .int .i64 q.b]
def Ag.enc (a : Ag) : List Value := [.int .i64 a.v, .int .i64 a.p.x, .int .i64 a.p.y, .int .i64 a.p.z]
def Vr.enc (v : Vr) : List Value := [.string v.name, .int .i64 v.op, .slice v.ap v.args.length v.ac, .int .i64 v.i0, .int .i64 v.i1, .int .i64 v.i2, .int .i64 v.i3]
def intEnc (n : Int) : List Value := [.int .i64 n]

/-- The elements xs, of k cells each, lie where p points, in a block below B. -/
def Row {α : Type} [Inhabited α] (B : Nat) (w : World) (p : Option Addr) (k : Nat) (enc : α → List Value) (xs : List α) : Prop :=
  xs ≠ [] → ∃ b off, p = some ⟨b, off, none⟩ ∧ b < B ∧ ∀ i, i < xs.length → ∀ j, j < k → w.cell? ⟨b, off + i * k + j, none⟩ = some ((enc xs[i]!)[j]!)

section
variable {α : Type} [Inhabited α] {B : Nat} {w w' : World} {p : Option Addr} {k : Nat} {enc : α → List Value} {xs : List α}
theorem Row.below (h : Row B w p k enc xs) {n : Nat} (hb : Below n w w') (hn : B ≤ n) : Row B w' p k enc xs := fun hx => by
  obtain ⟨b, off, hp, hbB, hc⟩ := h hx
  exact ⟨b, off, hp, hbB, fun i hi j hj => (hb.cell (p := ⟨b, off + i * k + j, none⟩) (Nat.lt_of_lt_of_le hbB hn)).trans (hc i hi j hj)⟩
theorem Row.mono (h : Row B w p k enc xs) {B' : Nat} (hn : B ≤ B') : Row B' w p k enc xs := fun hx => by
  obtain ⟨b, off, hp, hbB, hc⟩ := h hx
  exact ⟨b, off, hp, Nat.lt_of_lt_of_le hbB hn, hc⟩
theorem Row.nil : Row B w p k enc ([] : List α) := fun h => absurd rfl h
/-- Where element i lies. -/
theorem Row.at (h : Row B w p k enc xs) {i : Nat} (hi : i < xs.length) : ∃ b off, p = some ⟨b, off, none⟩ ∧ b < B ∧ ∀ j, j < k → w.cell? ⟨b, off + i * k + j, none⟩ = some ((enc xs[i]!)[j]!) := by
  obtain ⟨b, off, hp, hb, hc⟩ := h (by rintro rfl; simp at hi)
  exact ⟨b, off, hp, hb, hc i hi⟩
end

/-- Whatever lay below n reads as it did. -/
theorem bcell {W w1 : World} {n : Nat} (hb : Below n W w1) : (∀ b o, b < n → w1.cell? ⟨b, o, none⟩ = W.cell? ⟨b, o, none⟩) ∧ (∀ b o, b < n → w1.frozen? ⟨b, o, none⟩ = W.frozen? ⟨b, o, none⟩) :=
  ⟨fun b o h => hb.cell (p := ⟨b, o, none⟩) h, fun b o h => hb.frozen (p := ⟨b, o, none⟩) h⟩
theorem via {w w1 w2 : World} (h : Below w.heap.size w w1) (h2 : Below w1.heap.size w1 w2) : Below w.heap.size w w2 := h.trans (h2.mono h.size)
theorem ret_bool {a b : Bool} (h : a = b) : Ending.returned (.bool a) = .returned (.bool b) := by rw [h]
theorem ret_int {k : IntKind} {a b : Int} (h : a = b) : Ending.returned (.int k a) = .returned (.int k b) := by rw [h]
theorem tail_mem {α : Type} [Inhabited α] {xs : List α} {k : Nat} (h : k < xs.length) : xs.drop k = xs[k]! :: xs.drop (k + 1) ∧ xs[k]! ∈ xs := by
  rw [getElem!_pos xs k h]; exact ⟨List.drop_eq_getElem_cons h, List.getElem_mem h⟩

/-- The first place, from k on, at which pr holds; or -1. -/
def firstAt {α : Type} (pr : α → Bool) : List α → Nat → Int
  | [], _ => -1
  | x :: r, k => if pr x then k else firstAt pr r (k + 1)
theorem firstAt_nonneg {α : Type} (pr : α → Bool) : ∀ (l : List α) (k : Nat), decide (0 ≤ firstAt pr l k) = l.any pr
  | [], _ => by simp [firstAt]
  | x :: r, k => by
    rw [firstAt, List.any_cons]
    cases h : pr x
    · simpa using firstAt_nonneg pr r (k + 1)
    · simp
theorem firstAt_bounds {α : Type} (pr : α → Bool) : ∀ (l : List α) (k : Nat), -1 ≤ firstAt pr l k ∧ firstAt pr l k < k + l.length ∨ l = [] ∧ firstAt pr l k = -1
  | [], _ => .inr ⟨rfl, rfl⟩
  | x :: r, k => by
    refine .inl ?_
    rw [firstAt]
    split
    · simp; omega
    · rcases firstAt_bounds pr r (k + 1) with h | ⟨rfl, h⟩ <;> simp <;> omega

/-- The coordinates are at most m, and those from n on are 0. -/
def flatB (x y z n m : Int) : Bool := decide (-m ≤ x ∧ x ≤ m) && decide (-m ≤ y ∧ y ≤ m) && decide (-m ≤ z ∧ z ≤ m) && (decide (1 ≤ n) || x == 0) && (decide (2 ≤ n) || y == 0) && (decide (3 ≤ n) || z == 0)
theorem flatB_iff {x y z n m : Int} : flatB x y z n m = true ↔ (-m ≤ x ∧ x ≤ m) ∧ (-m ≤ y ∧ y ≤ m) ∧ (-m ≤ z ∧ z ≤ m) ∧ (1 ≤ n ∨ x = 0) ∧ (2 ≤ n ∨ y = 0) ∧ (3 ≤ n ∨ z = 0) := by
  simp [flatB, and_assoc]
/-- Each of three numbers is at most m. -/
def bd3 (x y z m : Int) : Prop := (-m ≤ x ∧ x ≤ m) ∧ (-m ≤ y ∧ y ≤ m) ∧ (-m ≤ z ∧ z ≤ m)
/-- The product of two points. -/
def dot3 (a b : P3) : Int := a.x * b.x + a.y * b.y + a.z * b.z
theorem mul_bd {a b m n : Int} (h1 : -m ≤ a) (h2 : a ≤ m) (h3 : -n ≤ b) (h4 : b ≤ n) : -(m * n) ≤ a * b ∧ a * b ≤ m * n := by
  have hm : 0 ≤ m := by omega
  have hn : 0 ≤ n := by omega
  have h5 : a * b ≤ (a.natAbs * b.natAbs : Nat) := by rw [← Int.natAbs_mul]; omega
  have h6 : -((a.natAbs * b.natAbs : Nat) : Int) ≤ a * b := by rw [← Int.natAbs_mul]; omega
  have h7 : a.natAbs * b.natAbs ≤ m.toNat * n.toNat := Nat.mul_le_mul (by omega) (by omega)
  have h8 : ((m.toNat * n.toNat : Nat) : Int) = m * n := by rw [Int.natCast_mul, Int.toNat_of_nonneg hm, Int.toNat_of_nonneg hn]
  omega
end Go.Proofs.Ytaimeemdmklmbaa
