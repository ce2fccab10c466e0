/- slices.IndexFunc and slices.ContainsFunc, at the element types of this program, with a function value that has captured none, one or two variables. -/
import Derived.Test.YtaimeemdmklmbaaBase
set_option linter.all false
namespace Go.Proofs.Ytaimeemdmklmbaa
open Go.RowKit

set_option maxHeartbeats 1000000 in
theorem idx_int0 {f : Nat} (eg : ∀ args w, (callFunc f args).run Try.prog w = .ok (.enter f args) w) (p : Option Addr) (c : Nat) (xs : List Int) (w : World) (pr : Int → Bool) (hb : xs.length ≤ 10000)
   (hc : Row w.heap.size w p 1 intEnc xs)
   (hf : ∀ W x, Below w.heap.size w W → x ∈ xs → Calls Try.prog f #[.int .i64 x] W fun e W' => e = .returned (.bool (pr x)) ∧ Below W.heap.size W W') :
   Calls Try.prog 89 #[.slice p xs.length c, .func (.func f) #[] #[]] w fun e w' => e = .returned (.int .i64 (firstAt pr xs 0)) ∧ Below w.heap.size w w' := by
  have Hf := Lib.hid hf
  have Hc := Lib.hid hc
  clear hf hc
  go_enter Try.func89, Try.ntmps89
  go_wp2
  go_loopw [8] (fun i wr => ∃ k : Nat, k ≤ xs.length ∧ i = .int .i64 k ∧ Below w.heap.size w wr ∧ firstAt pr xs 0 = firstAt pr (xs.drop k) k) (fun i _ => xs.length - (intOf i).toNat)
  case atStart => exact ⟨0, Nat.zero_le _, rfl, Below.refl _ _, rfl⟩
  case round =>
    obtain ⟨k, hk, rfl, hB, hI⟩ := hrel
    have HI := Lib.hid hI
    clear hI
    by_cases hlt : k < xs.length
    · obtain ⟨b, off, rfl, hbw, hcell⟩ := (Hc.out.below hB (Nat.le_refl _)).at hlt
      have hc0 : wr.cell? ⟨b, off + k, none⟩ = some (.int .i64 xs[k]!) := by simpa [intEnc] using hcell 0 (by decide)
      obtain ⟨hd, hmem⟩ := tail_mem hlt
      have HD := Lib.hid hd
      clear hd hcell
      generalize xs[k]! = x at *
      go_wp2_with fail
      refine (Hf.out _ _ hB hmem).mono ?_
      rintro e W' ⟨rfl, hb'⟩
      have hB' : Below w.heap.size w W' := via hB hb'
      cases hp : pr x
      · go_wp2
        go_roundw
        case rel => exact ⟨k + 1, by omega, by go_num, hB', by rw [HI.out, HD.out]; simp [firstAt, hp]⟩
        case measure => simp [intOf]; omega
      · go_wp2
        go_ret
        exact ⟨ret_int (by rw [HI.out, HD.out]; simp [firstAt, hp]), hB'⟩
    · go_wp2
      go_ret
      exact ⟨ret_int (by rw [HI.out, List.drop_eq_nil_of_le (by omega)]; rfl), hB⟩

set_option maxHeartbeats 1000000 in
theorem any_int0 {f : Nat} (eg : ∀ args w, (callFunc f args).run Try.prog w = .ok (.enter f args) w) (p : Option Addr) (c : Nat) (xs : List Int) (w : World) (pr : Int → Bool) (hb : xs.length ≤ 10000)
   (hc : Row w.heap.size w p 1 intEnc xs)
   (hf : ∀ W x, Below w.heap.size w W → x ∈ xs → Calls Try.prog f #[.int .i64 x] W fun e W' => e = .returned (.bool (pr x)) ∧ Below W.heap.size W W') :
   Calls Try.prog 94 #[.slice p xs.length c, .func (.func f) #[] #[]] w fun e w' => e = .returned (.bool (xs.any pr)) ∧ Below w.heap.size w w' := by
  have Hf := Lib.hid (idx_int0 eg p c xs w pr hb hc hf)
  have hs := firstAt_nonneg pr xs 0
  have Hs := Lib.hid hs
  clear hf hc hs
  go_enter Try.func94, Try.ntmps94
  go_wp2_with (go_at_call 89; refine (Hf.out).mono ?_; rintro e w1 ⟨rfl, hb1⟩)
  go_ret
  exact ⟨ret_bool Hs.out, hb1⟩

set_option maxHeartbeats 1000000 in
theorem idx_ineq1 {f : Nat} (eg : ∀ args w, (callFunc f args).run Try.prog w = .ok (.enter f args) w) (c0 : Value) (p : Option Addr) (c : Nat) (xs : List Iq) (w : World) (pr : Iq → Bool) (hb : xs.length ≤ 10000)
   (hc : Row w.heap.size w p 4 Iq.enc xs)
   (hf : ∀ W x, Below w.heap.size w W → x ∈ xs → Calls Try.prog f #[.agg #[.int .i64 x.a.x, .int .i64 x.a.y, .int .i64 x.a.z, .int .i64 x.b], c0] W fun e W' => e = .returned (.bool (pr x)) ∧ Below W.heap.size W W') :
   Calls Try.prog 123 #[.slice p xs.length c, .func (.func f) #[] #[c0]] w fun e w' => e = .returned (.int .i64 (firstAt pr xs 0)) ∧ Below w.heap.size w w' := by
  have Hf := Lib.hid hf
  have Hc := Lib.hid hc
  clear hf hc
  go_enter Try.func123, Try.ntmps123
  go_wp2
  go_loopw [8] (fun i wr => ∃ k : Nat, k ≤ xs.length ∧ i = .int .i64 k ∧ Below w.heap.size w wr ∧ firstAt pr xs 0 = firstAt pr (xs.drop k) k) (fun i _ => xs.length - (intOf i).toNat)
  case atStart => exact ⟨0, Nat.zero_le _, rfl, Below.refl _ _, rfl⟩
  case round =>
    obtain ⟨k, hk, rfl, hB, hI⟩ := hrel
    have HI := Lib.hid hI
    clear hI
    by_cases hlt : k < xs.length
    · obtain ⟨b, off, rfl, hbw, hcell⟩ := (Hc.out.below hB (Nat.le_refl _)).at hlt
      have hc0 : wr.cell? ⟨b, off + k * 4, none⟩ = some (.int .i64 xs[k]!.a.x) := hcell 0 (by decide)
      have hc1 : wr.cell? ⟨b, off + k * 4 + 1, none⟩ = some (.int .i64 xs[k]!.a.y) := hcell 1 (by decide)
      have hc2 : wr.cell? ⟨b, off + k * 4 + 2, none⟩ = some (.int .i64 xs[k]!.a.z) := hcell 2 (by decide)
      have hc3 : wr.cell? ⟨b, off + k * 4 + 3, none⟩ = some (.int .i64 xs[k]!.b) := hcell 3 (by decide)
      obtain ⟨hd, hmem⟩ := tail_mem hlt
      have HD := Lib.hid hd
      clear hd hcell
      generalize xs[k]! = x at *
      go_wp2_with fail
      refine (Hf.out _ _ hB hmem).mono ?_
      rintro e W' ⟨rfl, hb'⟩
      have hB' : Below w.heap.size w W' := via hB hb'
      cases hp : pr x
      · go_wp2
        go_roundw
        case rel => exact ⟨k + 1, by omega, by go_num, hB', by rw [HI.out, HD.out]; simp [firstAt, hp]⟩
        case measure => simp [intOf]; omega
      · go_wp2
        go_ret
        exact ⟨ret_int (by rw [HI.out, HD.out]; simp [firstAt, hp]), hB'⟩
    · go_wp2
      go_ret
      exact ⟨ret_int (by rw [HI.out, List.drop_eq_nil_of_le (by omega)]; rfl), hB⟩

set_option maxHeartbeats 1000000 in
theorem any_ineq1 {f : Nat} (eg : ∀ args w, (callFunc f args).run Try.prog w = .ok (.enter f args) w) (c0 : Value) (p : Option Addr) (c : Nat) (xs : List Iq) (w : World) (pr : Iq → Bool) (hb : xs.length ≤ 10000)
   (hc : Row w.heap.size w p 4 Iq.enc xs)
   (hf : ∀ W x, Below w.heap.size w W → x ∈ xs → Calls Try.prog f #[.agg #[.int .i64 x.a.x, .int .i64 x.a.y, .int .i64 x.a.z, .int .i64 x.b], c0] W fun e W' => e = .returned (.bool (pr x)) ∧ Below W.heap.size W W') :
   Calls Try.prog 98 #[.slice p xs.length c, .func (.func f) #[] #[c0]] w fun e w' => e = .returned (.bool (xs.any pr)) ∧ Below w.heap.size w w' := by
  have Hf := Lib.hid (idx_ineq1 eg c0 p c xs w pr hb hc hf)
  have hs := firstAt_nonneg pr xs 0
  have Hs := Lib.hid hs
  clear hf hc hs
  go_enter Try.func98, Try.ntmps98
  go_wp2_with (go_at_call 123; refine (Hf.out).mono ?_; rintro e w1 ⟨rfl, hb1⟩)
  go_ret
  exact ⟨ret_bool Hs.out, hb1⟩

set_option maxHeartbeats 1000000 in
theorem idx_ineq2 {f : Nat} (eg : ∀ args w, (callFunc f args).run Try.prog w = .ok (.enter f args) w) (c0 c1 : Value) (p : Option Addr) (c : Nat) (xs : List Iq) (w : World) (pr : Iq → Bool) (hb : xs.length ≤ 10000)
   (hc : Row w.heap.size w p 4 Iq.enc xs)
   (hf : ∀ W x, Below w.heap.size w W → x ∈ xs → Calls Try.prog f #[.agg #[.int .i64 x.a.x, .int .i64 x.a.y, .int .i64 x.a.z, .int .i64 x.b], c0, c1] W fun e W' => e = .returned (.bool (pr x)) ∧ Below W.heap.size W W') :
   Calls Try.prog 123 #[.slice p xs.length c, .func (.func f) #[] #[c0, c1]] w fun e w' => e = .returned (.int .i64 (firstAt pr xs 0)) ∧ Below w.heap.size w w' := by
  have Hf := Lib.hid hf
  have Hc := Lib.hid hc
  clear hf hc
  go_enter Try.func123, Try.ntmps123
  go_wp2
  go_loopw [8] (fun i wr => ∃ k : Nat, k ≤ xs.length ∧ i = .int .i64 k ∧ Below w.heap.size w wr ∧ firstAt pr xs 0 = firstAt pr (xs.drop k) k) (fun i _ => xs.length - (intOf i).toNat)
  case atStart => exact ⟨0, Nat.zero_le _, rfl, Below.refl _ _, rfl⟩
  case round =>
    obtain ⟨k, hk, rfl, hB, hI⟩ := hrel
    have HI := Lib.hid hI
    clear hI
    by_cases hlt : k < xs.length
    · obtain ⟨b, off, rfl, hbw, hcell⟩ := (Hc.out.below hB (Nat.le_refl _)).at hlt
      have hc0 : wr.cell? ⟨b, off + k * 4, none⟩ = some (.int .i64 xs[k]!.a.x) := hcell 0 (by decide)
      have hc1 : wr.cell? ⟨b, off + k * 4 + 1, none⟩ = some (.int .i64 xs[k]!.a.y) := hcell 1 (by decide)
      have hc2 : wr.cell? ⟨b, off + k * 4 + 2, none⟩ = some (.int .i64 xs[k]!.a.z) := hcell 2 (by decide)
      have hc3 : wr.cell? ⟨b, off + k * 4 + 3, none⟩ = some (.int .i64 xs[k]!.b) := hcell 3 (by decide)
      obtain ⟨hd, hmem⟩ := tail_mem hlt
      have HD := Lib.hid hd
      clear hd hcell
      generalize xs[k]! = x at *
      go_wp2_with fail
      refine (Hf.out _ _ hB hmem).mono ?_
      rintro e W' ⟨rfl, hb'⟩
      have hB' : Below w.heap.size w W' := via hB hb'
      cases hp : pr x
      · go_wp2
        go_roundw
        case rel => exact ⟨k + 1, by omega, by go_num, hB', by rw [HI.out, HD.out]; simp [firstAt, hp]⟩
        case measure => simp [intOf]; omega
      · go_wp2
        go_ret
        exact ⟨ret_int (by rw [HI.out, HD.out]; simp [firstAt, hp]), hB'⟩
    · go_wp2
      go_ret
      exact ⟨ret_int (by rw [HI.out, List.drop_eq_nil_of_le (by omega)]; rfl), hB⟩

set_option maxHeartbeats 1000000 in
theorem any_ineq2 {f : Nat} (eg : ∀ args w, (callFunc f args).run Try.prog w = .ok (.enter f args) w) (c0 c1 : Value) (p : Option Addr) (c : Nat) (xs : List Iq) (w : World) (pr : Iq → Bool) (hb : xs.length ≤ 10000)
   (hc : Row w.heap.size w p 4 Iq.enc xs)
   (hf : ∀ W x, Below w.heap.size w W → x ∈ xs → Calls Try.prog f #[.agg #[.int .i64 x.a.x, .int .i64 x.a.y, .int .i64 x.a.z, .int .i64 x.b], c0, c1] W fun e W' => e = .returned (.bool (pr x)) ∧ Below W.heap.size W W') :
   Calls Try.prog 98 #[.slice p xs.length c, .func (.func f) #[] #[c0, c1]] w fun e w' => e = .returned (.bool (xs.any pr)) ∧ Below w.heap.size w w' := by
  have Hf := Lib.hid (idx_ineq2 eg c0 c1 p c xs w pr hb hc hf)
  have hs := firstAt_nonneg pr xs 0
  have Hs := Lib.hid hs
  clear hf hc hs
  go_enter Try.func98, Try.ntmps98
  go_wp2_with (go_at_call 123; refine (Hf.out).mono ?_; rintro e w1 ⟨rfl, hb1⟩)
  go_ret
  exact ⟨ret_bool Hs.out, hb1⟩

set_option maxHeartbeats 1000000 in
theorem idx_arg2 {f : Nat} (eg : ∀ args w, (callFunc f args).run Try.prog w = .ok (.enter f args) w) (c0 c1 : Value) (p : Option Addr) (c : Nat) (xs : List Ag) (w : World) (pr : Ag → Bool) (hb : xs.length ≤ 10000)
   (hc : Row w.heap.size w p 4 Ag.enc xs)
   (hf : ∀ W x, Below w.heap.size w W → x ∈ xs → Calls Try.prog f #[.agg #[.int .i64 x.v, .int .i64 x.p.x, .int .i64 x.p.y, .int .i64 x.p.z], c0, c1] W fun e W' => e = .returned (.bool (pr x)) ∧ Below W.heap.size W W') :
   Calls Try.prog 121 #[.slice p xs.length c, .func (.func f) #[] #[c0, c1]] w fun e w' => e = .returned (.int .i64 (firstAt pr xs 0)) ∧ Below w.heap.size w w' := by
  have Hf := Lib.hid hf
  have Hc := Lib.hid hc
  clear hf hc
  go_enter Try.func121, Try.ntmps121
  go_wp2
  go_loopw [8] (fun i wr => ∃ k : Nat, k ≤ xs.length ∧ i = .int .i64 k ∧ Below w.heap.size w wr ∧ firstAt pr xs 0 = firstAt pr (xs.drop k) k) (fun i _ => xs.length - (intOf i).toNat)
  case atStart => exact ⟨0, Nat.zero_le _, rfl, Below.refl _ _, rfl⟩
  case round =>
    obtain ⟨k, hk, rfl, hB, hI⟩ := hrel
    have HI := Lib.hid hI
    clear hI
    by_cases hlt : k < xs.length
    · obtain ⟨b, off, rfl, hbw, hcell⟩ := (Hc.out.below hB (Nat.le_refl _)).at hlt
      have hc0 : wr.cell? ⟨b, off + k * 4, none⟩ = some (.int .i64 xs[k]!.v) := hcell 0 (by decide)
      have hc1 : wr.cell? ⟨b, off + k * 4 + 1, none⟩ = some (.int .i64 xs[k]!.p.x) := hcell 1 (by decide)
      have hc2 : wr.cell? ⟨b, off + k * 4 + 2, none⟩ = some (.int .i64 xs[k]!.p.y) := hcell 2 (by decide)
      have hc3 : wr.cell? ⟨b, off + k * 4 + 3, none⟩ = some (.int .i64 xs[k]!.p.z) := hcell 3 (by decide)
      obtain ⟨hd, hmem⟩ := tail_mem hlt
      have HD := Lib.hid hd
      clear hd hcell
      generalize xs[k]! = x at *
      go_wp2_with fail
      refine (Hf.out _ _ hB hmem).mono ?_
      rintro e W' ⟨rfl, hb'⟩
      have hB' : Below w.heap.size w W' := via hB hb'
      cases hp : pr x
      · go_wp2
        go_roundw
        case rel => exact ⟨k + 1, by omega, by go_num, hB', by rw [HI.out, HD.out]; simp [firstAt, hp]⟩
        case measure => simp [intOf]; omega
      · go_wp2
        go_ret
        exact ⟨ret_int (by rw [HI.out, HD.out]; simp [firstAt, hp]), hB'⟩
    · go_wp2
      go_ret
      exact ⟨ret_int (by rw [HI.out, List.drop_eq_nil_of_le (by omega)]; rfl), hB⟩

set_option maxHeartbeats 1000000 in
theorem any_arg2 {f : Nat} (eg : ∀ args w, (callFunc f args).run Try.prog w = .ok (.enter f args) w) (c0 c1 : Value) (p : Option Addr) (c : Nat) (xs : List Ag) (w : World) (pr : Ag → Bool) (hb : xs.length ≤ 10000)
   (hc : Row w.heap.size w p 4 Ag.enc xs)
   (hf : ∀ W x, Below w.heap.size w W → x ∈ xs → Calls Try.prog f #[.agg #[.int .i64 x.v, .int .i64 x.p.x, .int .i64 x.p.y, .int .i64 x.p.z], c0, c1] W fun e W' => e = .returned (.bool (pr x)) ∧ Below W.heap.size W W') :
   Calls Try.prog 92 #[.slice p xs.length c, .func (.func f) #[] #[c0, c1]] w fun e w' => e = .returned (.bool (xs.any pr)) ∧ Below w.heap.size w w' := by
  have Hf := Lib.hid (idx_arg2 eg c0 c1 p c xs w pr hb hc hf)
  have hs := firstAt_nonneg pr xs 0
  have Hs := Lib.hid hs
  clear hf hc hs
  go_enter Try.func92, Try.ntmps92
  go_wp2_with (go_at_call 121; refine (Hf.out).mono ?_; rintro e w1 ⟨rfl, hb1⟩)
  go_ret
  exact ⟨ret_bool Hs.out, hb1⟩

end Go.Proofs.Ytaimeemdmklmbaa
