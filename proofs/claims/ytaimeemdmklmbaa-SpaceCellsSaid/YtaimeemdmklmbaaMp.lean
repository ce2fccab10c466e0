/- Maps that a call has made itself: what they hold, as a function from keys to elements; look-ups, stores, lengths. -/
import Derived.Test.YtaimeemdmklmbaaBase
import Derived.Maps.OwnSet
import Derived.Maps.OwnOps
import Derived.DeepKeys4
set_option linter.all false
namespace Go.Proofs.Ytaimeemdmklmbaa
open Go.RowKit

/-- How an element reads: as itself. -/
def heldR (v : Value) : Option (DataW Value × List MemPlace) := some (.held v, [])
/-- A map from keys to elements with one key more. -/
def fup {κ ν : Type} [DecidableEq κ] (f : κ → Option ν) (x : κ) (v : ν) : κ → Option ν := fun y => if y = x then some v else f y
theorem fup_same {κ ν : Type} [DecidableEq κ] (f : κ → Option ν) (x : κ) (v : ν) : fup f x v x = some v := if_pos rfl
theorem fup_other {κ ν : Type} [DecidableEq κ] (f : κ → Option ν) {x y : κ} (v : ν) (h : y ≠ x) : fup f x v y = f y := if_neg h

/-- Block b is a map with at most n entries, just m, that holds f. -/
def MapIs {κ ν : Type} (w : World) (P : Program) (k : TypeId) (ek : κ → Value) (ev : ν → Value) (b n : Nat) (f : κ → Option ν) (m : Nat) : Prop :=
  ∃ D : DataW Value, w.ownsMap P k heldR b n D ∧ Maps.size D = m ∧ ∀ x kl, keyOf P k (ek x) = some kl → Maps.has D kl = (f x).isSome ∧ ∀ z : Value, D.atKey kl (.held z) = .held (((f x).map ev).getD z)

section
variable {κ ν : Type} {w w' : World} {P : Program} {k e t : TypeId} {ek : κ → Value} {ev : ν → Value} {b n m : Nat} {f : κ → Option ν}
theorem MapIs.made (w : World) (P : Program) (k : TypeId) (ek : κ → Value) (ev : ν → Value) : MapIs (w.alloc (.map #[] 0)) P k ek ev w.heap.size 0 (fun _ : κ => (none : Option ν)) 0 :=
  ⟨_, World.ownsMap_made w P k heldR, rfl, fun _ _ _ => ⟨rfl, fun _ => rfl⟩⟩
theorem MapIs.lt (h : MapIs w P k ek ev b n f m) : b < w.heap.size := let ⟨_, h, _⟩ := h; h.lt
theorem MapIs.mono (h : MapIs w P k ek ev b n f m) {n' : Nat} (hn : n ≤ n') : MapIs w P k ek ev b n' f m := let ⟨D, h, r⟩ := h; ⟨D, h.mono hn, r⟩
theorem MapIs.kept {row : Option Nat} (h : MapIs w P k ek ev b n f m) (hg : w.grownBy w' row) (hne : some b ≠ row) : MapIs w' P k ek ev b n f m := let ⟨D, h, r⟩ := h; ⟨D, h.kept hg hne, r⟩
theorem MapIs.below (h : MapIs w P k ek ev b n f m) {n0 : Nat} (hb : Below n0 w w') (hn : b < n0) : MapIs w' P k ek ev b n f m := by
  obtain ⟨D, ⟨es, clock, hbk, F, hs, hD⟩, r⟩ := h
  exact ⟨D, ⟨es, clock, (hb.block b hn).trans hbk, F, hs, hD⟩, r⟩
theorem MapIs.alloc (h : MapIs w P k ek ev b n f m) (o : Obj) : MapIs (w.alloc o) P k ek ev b n f m := let ⟨D, h, r⟩ := h; ⟨D, h.alloc o, r⟩
theorem MapIs.drew (h : MapIs w P k ek ev b n f m) : MapIs w.drew P k ek ev b n f m := h
theorem MapIs.setCell (h : MapIs w P k ek ev b n f m) {a : Addr} (ha : b ≠ a.block) (u : Value) : MapIs (w.setCell a u) P k ek ev b n f m := let ⟨D, h, r⟩ := h; ⟨D, h.setCell ha u, r⟩
theorem MapIs.size_le (h : MapIs w P k ek ev b n f m) : m ≤ n := by obtain ⟨D, h, rfl, _⟩ := h; exact h.size_le

/-- 'm[x]'. -/
theorem MapIs.look (h : MapIs w P k ek ev b n f m) (K : Maps.Keyed P k) (ht : P.underlying t = some (.map k e)) {z : Value} (hz : (zeroValue e).run P w = .ok z w) (x : κ) {kl : Lit} (hx : keyOf P k (ek x) = some kl) :
    (Instr.lookup t (.map (some b)) (ek x) false).run P w = .ok (((f x).map ev).getD z) w := by
  obtain ⟨D, h, _, hf⟩ := h
  obtain ⟨v, ps, hrun, hv⟩ := h.lookup K ht hz (zd := .held z) (zp := []) rfl hx
  rw [(hf x kl hx).2 z] at hv
  simp only [heldR, Option.some.injEq, Prod.mk.injEq, DataW.held.injEq] at hv
  rw [hrun, hv.1]
/-- 'v, ok := m[x]'. -/
theorem MapIs.look_ok (h : MapIs w P k ek ev b n f m) (K : Maps.Keyed P k) (ht : P.underlying t = some (.map k e)) {z : Value} (hz : (zeroValue e).run P w = .ok z w) (x : κ) {kl : Lit} (hx : keyOf P k (ek x) = some kl) :
    (Instr.lookup t (.map (some b)) (ek x) true).run P w = .ok (.tuple #[((f x).map ev).getD z, .bool (f x).isSome]) w := by
  obtain ⟨D, h, _, hf⟩ := h
  obtain ⟨v, ps, hrun, hv⟩ := h.look_ok K ht hz (zd := .held z) (zp := []) rfl hx
  rw [(hf x kl hx).2 z] at hv
  simp only [heldR, Option.some.injEq, Prod.mk.injEq, DataW.held.injEq] at hv
  rw [hrun, hv.1, (hf x kl hx).1]
/-- 'm[x] = v'. -/
theorem MapIs.store [DecidableEq κ] (h : MapIs w P k ek ev b n f m) (K : Maps.Keyed P k) (ht : P.underlying t = some (.map k e)) (hn : n < maxLen) (hek : ∀ x y, ek x = ek y → x = y) (x : κ) (v : ν) {kl : Lit} (hx : keyOf P k (ek x) = some kl) :
    ∃ w', (Instr.mapUpdate t (.map (some b)) (ek x) (ev v)).run P w = .ok () w' ∧ MapIs w' P k ek ev b (n + 1) (fup f x v) (if (f x).isSome then m else m + 1) ∧ w.grownBy w' (some b) := by
  obtain ⟨D, h, rfl, hf⟩ := h
  obtain ⟨w', hrun, h1, h2⟩ := h.update K ht hn (kl := kl) (d := .held (ev v)) (ps := []) hx rfl
  have hT := h.tidy K
  refine ⟨w', hrun, ⟨_, h1, ?_, fun y yl hy => ?_⟩, h2⟩
  · rw [Maps.size_put hT, (hf x kl hx).1]
  · by_cases hxy : y = x
    · subst hxy
      obtain rfl : kl = yl := by rw [hx] at hy; cases hy; rfl
      refine ⟨by rw [Maps.has_put_same hT.isMap (K.key hx), fup_same]; rfl, fun z => by rw [Maps.atKey_put_same hT.isMap (K.key hx), fup_same]; rfl⟩
    · have hne : yl ≠ kl := fun e' => hxy (hek _ _ (K.inj hy (e' ▸ hx)))
      refine ⟨by rw [Maps.has_put_other hne, fup_other f v hxy]; exact (hf y yl hy).1, fun z => by rw [Maps.atKey_put_other hne, fup_other f v hxy]; exact (hf y yl hy).2 z⟩
/-- 'len(m)'. -/
theorem MapIs.len (h : MapIs w P k ek ev b n f m) (ht : P.underlying t = some (.map k e)) (ty : TypeId) : (Builtin.len_ #[t] ty #[.map (some b)]).run P w = .ok (.int .i64 m) w := by
  obtain ⟨D, h, rfl, _⟩ := h
  exact h.len ht ty
end

/-- 'm[x] = v' at the operation, for the walk. -/
theorem wpList_put {κ ν : Type} [DecidableEq κ] {w : World} {P : Program} {k e : TypeId} {ek : κ → Value} {ev : ν → Value} {b n m : Nat} {f : κ → Option ν} {ops : Array Oper} {rest : List Oper} {o : Oper} {a : Act} {Q : Exit → Act → World → Prop}
    (hg : o.guard = none) (mm x v : Operand) (t : TypeId) (hop : o.op = Op.mapUpdate t mm x v) (K : Maps.Keyed P k) (ht : P.underlying t = some (.map k e)) (hm : a.eval mm = .map (some b)) (h : MapIs w P k ek ev b n f m) (hn : n < maxLen) (hek : ∀ x y, ek x = ek y → x = y)
    (kx : κ) (u : ν) (hx : a.eval x = ek kx) (hv : a.eval v = ev u) {kl : Lit} (hkey : keyOf P k (ek kx) = some kl)
    (hK : ∀ w', MapIs w' P k ek ev b (n + 1) (fup f kx u) (if (f kx).isSome then m else m + 1) → w.grownBy w' (some b) → wpList P ops Q rest (a.put o.dst undef) w') :
    wpList P ops Q (o :: rest) a w := by
  refine wpList_plain hg fun K' hK' => ?_
  obtain ⟨w', hrun, r1, r2⟩ := h.store K ht hn hek kx u hkey
  unfold Oper.wp
  simp [execOp, hop, hm, hx, hv, hrun, Result.andThen]
  exact hK' _ _ (hK w' r1 r2)
/-- 'm[x]' at the operation, for the walk. -/
theorem wpList_get {κ ν : Type} {w : World} {P : Program} {k e : TypeId} {ek : κ → Value} {ev : ν → Value} {b n m : Nat} {f : κ → Option ν} {ops : Array Oper} {rest : List Oper} {o : Oper} {a : Act} {Q : Exit → Act → World → Prop}
    (hg : o.guard = none) (mm x : Operand) (t : TypeId) (hop : o.op = Op.lookup t mm x false) (K : Maps.Keyed P k) (ht : P.underlying t = some (.map k e)) {z : Value} (hz : (zeroValue e).run P w = .ok z w) (hm : a.eval mm = .map (some b)) (h : MapIs w P k ek ev b n f m)
    (kx : κ) (hx : a.eval x = ek kx) {kl : Lit} (hkey : keyOf P k (ek kx) = some kl) {r : Value} (hr : ((f kx).map ev).getD z = r)
    (hK : wpList P ops Q rest (a.put o.dst r) w) : wpList P ops Q (o :: rest) a w := by
  refine wpList_plain hg fun K' hK' => ?_
  have hrun := h.look K ht hz kx hkey
  rw [hr] at hrun
  unfold Oper.wp
  simp [execOp, hop, hm, hx, hrun, Result.andThen]
  exact hK' _ _ hK
/-- 'v, ok := m[x]' at the operation, for the walk. -/
theorem wpList_get_ok {κ ν : Type} {w : World} {P : Program} {k e : TypeId} {ek : κ → Value} {ev : ν → Value} {b n m : Nat} {f : κ → Option ν} {ops : Array Oper} {rest : List Oper} {o : Oper} {a : Act} {Q : Exit → Act → World → Prop}
    (hg : o.guard = none) (mm x : Operand) (t : TypeId) (hop : o.op = Op.lookup t mm x true) (K : Maps.Keyed P k) (ht : P.underlying t = some (.map k e)) {z : Value} (hz : (zeroValue e).run P w = .ok z w) (hm : a.eval mm = .map (some b)) (h : MapIs w P k ek ev b n f m)
    (kx : κ) (hx : a.eval x = ek kx) {kl : Lit} (hkey : keyOf P k (ek kx) = some kl) {r : Value} (hr : ((f kx).map ev).getD z = r) {ok : Bool} (hok : (f kx).isSome = ok)
    (hK : wpList P ops Q rest (a.put o.dst (.tuple #[r, .bool ok])) w) : wpList P ops Q (o :: rest) a w := by
  refine wpList_plain hg fun K' hK' => ?_
  have hrun := h.look_ok K ht hz kx hkey
  rw [hr, hok] at hrun
  unfold Oper.wp
  simp [execOp, hop, hm, hx, hrun, Result.andThen]
  exact hK' _ _ hK
end Go.Proofs.Ytaimeemdmklmbaa
