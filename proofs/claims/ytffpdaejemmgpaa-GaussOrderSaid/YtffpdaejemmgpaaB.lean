/- This file holds the walks of bits.Mul64, rat.product and rat.put. -/
import Derived.Test.YtffpdaejemmgpaaA
import Derived.Laws.Bits64b
namespace Go.Proofs.Ytffpdaejemmgpaa.W
open Go.RowKit Go.Proofs.YtffpdaejemmgpaaW.PrintWords
set_option linter.unusedVariables false
set_option linter.unusedSimpArgs false
theorem mul_bound (x y : Int) (hx : 0 ≤ x) (hx1 : x ≤ 4294967295) (hy : 0 ≤ y) (hy1 : y ≤ 4294967295) : 0 ≤ x * y ∧ x * y ≤ 18446744065119617025 :=
  ⟨Int.mul_nonneg hx hy, by have := Int.mul_le_mul hx1 hy1 hy (by omega : (0:Int) ≤ 4294967295); omega⟩
theorem mul64_split (a b : Int) : a * b = (a / 4294967296 * (b / 4294967296)) * 18446744073709551616 + (a / 4294967296 * (b % 4294967296) + a % 4294967296 * (b / 4294967296)) * 4294967296 + a % 4294967296 * (b % 4294967296) := by
  have ha := Int.mul_ediv_add_emod a 4294967296
  have hb := Int.mul_ediv_add_emod b 4294967296
  generalize a / 4294967296 = a1 at *
  generalize b / 4294967296 = b1 at *
  generalize a % 4294967296 = a0 at *
  generalize b % 4294967296 = b0 at *
  subst ha; subst hb; grind
theorem mul64_hi (a b : Int) (ha : 0 ≤ a) (ha1 : a < 18446744073709551616) (hb : 0 ≤ b) (hb1 : b < 18446744073709551616) :
    (((a / 4294967296 * (b / 4294967296)) % 18446744073709551616 + ((a / 4294967296 * (b % 4294967296)) % 18446744073709551616 + (a % 4294967296 * (b % 4294967296)) % 18446744073709551616 / 4294967296) % 18446744073709551616 / 4294967296) % 18446744073709551616
      + (((a / 4294967296 * (b % 4294967296)) % 18446744073709551616 + (a % 4294967296 * (b % 4294967296)) % 18446744073709551616 / 4294967296) % 18446744073709551616 % 4294967296 + (a % 4294967296 * (b / 4294967296)) % 18446744073709551616) % 18446744073709551616 / 4294967296) % 18446744073709551616 = a * b / 18446744073709551616 := by
  have h := mul64_split a b
  have h11 := mul_bound (a / 4294967296) (b / 4294967296) (by omega) (by omega) (by omega) (by omega)
  have h10 := mul_bound (a / 4294967296) (b % 4294967296) (by omega) (by omega) (by omega) (by omega)
  have h01 := mul_bound (a % 4294967296) (b / 4294967296) (by omega) (by omega) (by omega) (by omega)
  have h00 := mul_bound (a % 4294967296) (b % 4294967296) (by omega) (by omega) (by omega) (by omega)
  generalize a / 4294967296 * (b / 4294967296) = p11 at *
  generalize a / 4294967296 * (b % 4294967296) = p10 at *
  generalize a % 4294967296 * (b / 4294967296) = p01 at *
  generalize a % 4294967296 * (b % 4294967296) = p00 at *
  generalize a * b = p at *
  clear ha ha1 hb hb1
  omega
theorem and32 (x : Int) (h0 : 0 ≤ x) (h1 : x < 18446744073709551616) : bits BinOp.and IntKind.u64 x 4294967295 = x % 4294967296 := by
  have h := bits_and_u64_nat x.toNat 4294967295 (by omega) (by omega)
  have e : x.toNat &&& 4294967295 = x.toNat % 4294967296 := Nat.and_two_pow_sub_one_eq_mod x.toNat 32
  rw [e, Int.toNat_of_nonneg h0] at h
  have h2 : ((x.toNat % 4294967296 : Nat) : Int) = x % 4294967296 := by omega
  exact h.trans h2
theorem ret2i {k k' : IntKind} {a b a' b' : Int} (h : a = a') (h' : b = b') : Ending.returned (.tuple #[.int k a, .int k' b]) = .returned (.tuple #[.int k a', .int k' b']) := by rw [h, h']
theorem ret2b {k : IntKind} {a a' : Int} {b b' : Bool} (h : a = a') (h' : b = b') : Ending.returned (.tuple #[.int k a, .bool b]) = .returned (.tuple #[.int k a', .bool b']) := by rw [h, h']
set_option maxHeartbeats 400000 in
theorem Mul64_calls (a b : Int) (ha : 0 ≤ a) (ha1 : a < 18446744073709551616) (hb : 0 ≤ b) (hb1 : b < 18446744073709551616) (w : World) :
    Calls Try.prog 130 #[.int .u64 a, .int .u64 b] w fun e w' => e = .returned (.tuple #[.int .u64 (a * b / 18446744073709551616), .int .u64 (a * b % 18446744073709551616)]) ∧ w' = w := by
  go_enter Try.func130, Try.ntmps130
  go_wp2
  go_ret2
  refine ⟨ret2i ?_ (wrap_u64 _), rfl⟩
  rw [and32 a ha ha1, and32 b hb hb1, and32 _ (by rw [wrap_u64]; omega) (by rw [wrap_u64]; omega)]
  simp only [wrap_u64]
  exact mul64_hi a b ha ha1 hb hb1
set_option maxHeartbeats 400000 in
theorem product_calls (a b : Nat) (ha : a < 18446744073709551616) (hb : b < 18446744073709551616) (w : World) :
    Calls Try.prog 114 #[.int .u64 a, .int .u64 b] w fun e w' => e = .returned (.tuple #[.int .u64 ((a * b % 18446744073709551616 : Nat) : Int), .bool (decide (a * b < 18446744073709551616))]) ∧ w' = w := by
  go_enter Try.func114, Try.ntmps114
  go_wp2_with (go_at_call 130; refine (Mul64_calls _ _ (by omega) (by omega) (by omega) (by omega) _).mono ?_; rintro e w' ⟨rfl, rfl⟩)
  go_ret2
  refine ⟨ret2b (by rw [Int.natCast_emod, Int.natCast_mul]; rfl) ?_, rfl⟩
  rw [Bool.eq_iff_iff]
  simp only [beq_iff_eq, decide_eq_true_eq]
  rw [← Int.natCast_mul]
  generalize a * b = p
  omega
theorem product_fits (a b N : Nat) (hN : N = a * b) (ha : a < 18446744073709551616) (hb : b < 18446744073709551616) (h : N < 18446744073709551616) (w : World) :
    Calls Try.prog 114 #[.int .u64 a, .int .u64 b] w fun e w' => e = .returned (.tuple #[.int .u64 N, .bool true]) ∧ w' = w :=
  (product_calls a b ha hb w).mono fun _ _ ⟨he, hw⟩ => ⟨by rw [he, ← hN, Nat.mod_eq_of_lt h, decide_eq_true h], hw⟩
theorem product_over (a b N : Nat) (hN : N = a * b) (ha : a < 18446744073709551616) (hb : b < 18446744073709551616) (h : ¬ N < 18446744073709551616) (X : Int) (hX : X = (N : Int) % 18446744073709551616) (w : World) :
    Calls Try.prog 114 #[.int .u64 a, .int .u64 b] w fun e w' => e = .returned (.tuple #[.int .u64 X, .bool false]) ∧ w' = w :=
  (product_calls a b ha hb w).mono fun _ _ ⟨he, hw⟩ => ⟨by rw [he, ← hN, decide_eq_false h, hX, Int.natCast_emod]; rfl, hw⟩
/-- put: a fraction of two sizes, and a sign. -/
def putS (n d : Nat) (m : Bool) : Q × Int := if n ≤ 9223372036854775807 ∧ d ≤ 9223372036854775807 then (⟨if m then -(n : Int) else n, d⟩, 0) else (⟨0, 0⟩, 3)
/-- A fraction and an error, as they are handed back. -/
def qe (r : Q × Int) : Ending := .returned (.tuple #[.agg #[.int .i64 r.1.n, .int .i64 r.1.d], .int .i64 r.2])
theorem qe_of {a b c : Int} {x : Value} {r : Q × Int} (h : ((⟨a, b⟩, c) : Q × Int) = r) (hx : x = .int .i64 c) : Ending.returned (.tuple #[.agg #[.int .i64 a, .int .i64 b], x]) = qe r := by rw [← h, hx]; rfl
theorem qe_calls {P : Program} {f : FuncId} {args : Array Value} {w : World} {r : Q × Int} {R : World → Prop} (h : Calls P f args w fun e w' => e = qe r ∧ R w') {a b c : Int} (hr : r = (⟨a, b⟩, c)) :
    Calls P f args w fun e w' => e = .returned (.tuple #[.agg #[.int .i64 a, .int .i64 b], .int .i64 c]) ∧ R w' := by subst hr; exact h
theorem qe_eq {r r' : Q × Int} (h : r = r') : qe r = qe r' := by rw [h]
set_option maxHeartbeats 400000 in
theorem put_calls (n d : Nat) (m : Bool) (hn : n < 18446744073709551616) (hd : d < 18446744073709551616) (w : World) :
    Calls Try.prog 115 #[.int .u64 n, .int .u64 d, .bool m] w fun e w' => e = qe (putS n d m) ∧ Below w.heap.size w w' := by
  by_cases h1 : (9223372036854775807 : Int) < n
  · have e : ((⟨0, 0⟩, 3) : Q × Int) = putS n d m := by unfold putS; rw [if_neg (by omega)]
    have E := Lib.hid e; clear e
    go_enter Try.func115, Try.ntmps115
    go_wp2
    exact bodyPost_ret (v := .tuple #[.agg #[.int .i64 0, .int .i64 0], .int .i64 3]) (by simp [results, Try.results115, go_sem]) rfl ⟨qe_eq E.out, (by repeat (first | exact Below.refl _ _ | assumption | exact Hid.out (by assumption) | (with_reducible first | refine bw_drewN ?_ _ | refine bw_alloc ?_ _ | refine bw_drew ?_) | (refine bw_set ?_ (by first | exact Nat.le_refl _ | (simp; done) | (simp; omega) | omega) _)))⟩
  · by_cases h2 : (9223372036854775807 : Int) < d
    · have e : ((⟨0, 0⟩, 3) : Q × Int) = putS n d m := by unfold putS; rw [if_neg (by omega)]
      have E := Lib.hid e; clear e
      go_enter Try.func115, Try.ntmps115
      go_wp2
      exact bodyPost_ret (v := .tuple #[.agg #[.int .i64 0, .int .i64 0], .int .i64 3]) (by simp [results, Try.results115, go_sem]) rfl ⟨qe_eq E.out, (by repeat (first | exact Below.refl _ _ | assumption | exact Hid.out (by assumption) | (with_reducible first | refine bw_drewN ?_ _ | refine bw_alloc ?_ _ | refine bw_drew ?_) | (refine bw_set ?_ (by first | exact Nat.le_refl _ | (simp; done) | (simp; omega) | omega) _)))⟩
    · cases m
      · have e : ((⟨n, d⟩, 0) : Q × Int) = putS n d false := by unfold putS; rw [if_pos (by omega)]; simp
        have E := Lib.hid e; clear e
        go_enter Try.func115, Try.ntmps115
        go_wp2
        exact bodyPost_ret (v := .tuple #[.agg #[.int .i64 n, .int .i64 d], .int .i64 0]) (by simp [results, Try.results115, go_sem]) rfl ⟨qe_eq E.out, (by repeat (first | exact Below.refl _ _ | assumption | exact Hid.out (by assumption) | (with_reducible first | refine bw_drewN ?_ _ | refine bw_alloc ?_ _ | refine bw_drew ?_) | (refine bw_set ?_ (by first | exact Nat.le_refl _ | (simp; done) | (simp; omega) | omega) _)))⟩
      · have e : ((⟨-n, d⟩, 0) : Q × Int) = putS n d true := by unfold putS; rw [if_pos (by omega)]; simp
        have E := Lib.hid e; clear e
        go_enter Try.func115, Try.ntmps115
        go_wp2
        exact bodyPost_ret (v := .tuple #[.agg #[.int .i64 (-n), .int .i64 d], .int .i64 0]) (by simp [results, Try.results115, go_sem]) rfl ⟨qe_eq E.out, (by repeat (first | exact Below.refl _ _ | assumption | exact Hid.out (by assumption) | (with_reducible first | refine bw_drewN ?_ _ | refine bw_alloc ?_ _ | refine bw_drew ?_) | (refine bw_set ?_ (by first | exact Nat.le_refl _ | (simp; done) | (simp; omega) | omega) _)))⟩
end Go.Proofs.Ytffpdaejemmgpaa.W
