/- This file holds the core of the walk of bits.Div64. -/
import Derived.Test.YtffpdaejemmgpaaE
namespace Go.Proofs.Ytffpdaejemmgpaa.W
open Go.RowKit Go.Proofs.YtffpdaejemmgpaaW.PrintWords
set_option linter.unusedVariables false
set_option linter.unusedSimpArgs false
/-- One digit of the quotient by Knuth's way: what a round of the correction knows. -/
theorem kn_le {A d yn yn1 yn0 q r : Int} (hy : yn = yn1 * 4294967296 + yn0) (hqr : q * yn1 + r = A) : q * yn = (A - r) * 4294967296 + q * yn0 := by
  subst hy; have : q * yn1 = A - r := by omega
  have h2 : q * (yn1 * 4294967296 + yn0) = (q * yn1) * 4294967296 + q * yn0 := by grind
  rw [h2, this]
theorem div_le_of {X y q : Int} (hy : 0 < y) (h : X < (q + 1) * y) : X / y ≤ q := by
  have := (Int.ediv_lt_iff_lt_mul hy).2 h; omega
theorem le_div_of {X y q : Int} (hy : 0 < y) (h : q * y ≤ X) : q ≤ X / y := (Int.le_ediv_iff_mul_le hy).2 h
/-- The first guess is no less than the digit. -/
theorem kn_start {A d yn yn1 yn0 : Int} (hy : yn = yn1 * 4294967296 + yn0) (h0 : 0 ≤ yn0) (h1 : 0 < yn1) (hA : 0 ≤ A) (hd : 0 ≤ d) (hd1 : d < 4294967296) : (A * 4294967296 + d) / yn ≤ A / yn1 := by
  have hp : 0 < yn := by omega
  apply div_le_of hp
  have e := Int.mul_ediv_add_emod A yn1
  have e2 := Int.emod_lt_of_pos A h1
  generalize hq : A / yn1 = q at *
  generalize A % yn1 = r at *
  have hq0 : 0 ≤ q := by rw [← hq]; exact Int.ediv_nonneg hA (by omega)
  have : (q + 1) * yn = (yn1 * q) * 4294967296 + yn1 * 4294967296 + (q + 1) * yn0 := by subst hy; grind
  have h3 : 0 ≤ (q + 1) * yn0 := Int.mul_nonneg (by omega) h0
  rw [this]; omega
/-- The digit has 32 bits. -/
theorem kn_digit {A d yn : Int} (hp : 0 < yn) (hA : A < yn) (hA0 : 0 ≤ A) (hd : 0 ≤ d) (hd1 : d < 4294967296) : 0 ≤ (A * 4294967296 + d) / yn ∧ (A * 4294967296 + d) / yn < 4294967296 :=
  ⟨Int.ediv_nonneg (by omega) (by omega), by
    apply (Int.ediv_lt_iff_lt_mul hp).2
    omega⟩
/-- Where the test says yes, the guess is too great. -/
theorem kn_more {A d yn yn1 yn0 q r : Int} (hy : yn = yn1 * 4294967296 + yn0) (hp : 0 < yn) (hqr : q * yn1 + r = A) (h : r * 4294967296 + d < q * yn0) : (A * 4294967296 + d) / yn < q := by
  apply (Int.ediv_lt_iff_lt_mul hp).2
  have := kn_le (d := d) hy hqr
  rw [this]; omega
/-- Where it says no, it isn't. -/
theorem kn_done {A d yn yn1 yn0 q r : Int} (hy : yn = yn1 * 4294967296 + yn0) (hp : 0 < yn) (hqr : q * yn1 + r = A) (h : q * yn0 ≤ r * 4294967296 + d) : q ≤ (A * 4294967296 + d) / yn := by
  apply le_div_of hp
  have := kn_le (d := d) hy hqr
  rw [this]; omega
/-- Where the rest has more than 32 bits, the guess has no more. -/
theorem kn_small {A yn yn1 yn0 q r : Int} (hy : yn = yn1 * 4294967296 + yn0) (h1 : 0 < yn1) (h0 : yn0 < 4294967296) (hA : A < yn) (hqr : q * yn1 + r = A) (hr : 4294967296 ≤ r) : q ≤ 4294967296 := by
  by_cases h : q ≤ 4294967296
  · exact h
  · have : 4294967297 * yn1 ≤ q * yn1 := Int.mul_le_mul_of_nonneg_right (by omega) (by omega)
    omega
theorem kn_break {A d yn yn1 yn0 q r : Int} (hy : yn = yn1 * 4294967296 + yn0) (h1 : 0 < yn1) (h0 : yn0 < 4294967296) (h00 : 0 ≤ yn0) (hd : 0 ≤ d) (hA : A < yn) (hqr : q * yn1 + r = A) (hr : 4294967296 ≤ r) (hq : 0 ≤ q) : q ≤ (A * 4294967296 + d) / yn := by
  apply kn_done hy (by omega) hqr
  have h2 := kn_small hy h1 h0 hA hqr hr
  have : q * yn0 ≤ 4294967296 * yn0 := Int.mul_le_mul_of_nonneg_right h2 h00
  omega
/-- Both digits together. -/
theorem kn_all {U y A L d1 d0 P yn Q1 R1 Q0 R0 : Int} (hP : 0 < P) (hy : 0 < y) (hyn : yn = y * P) (hU : A * 18446744073709551616 + L = U * P) (hL : L = d1 * 4294967296 + d0)
    (e1 : A * 4294967296 + d1 = Q1 * yn + R1) (e2 : R1 * 4294967296 + d0 = Q0 * yn + R0) (h0 : 0 ≤ R0) (h1 : R0 < yn) :
    Q1 * 4294967296 + Q0 = U / y ∧ R0 / P = U % y := by
  have h : U * P = (Q1 * 4294967296 + Q0) * y * P + R0 := by
    have : (Q1 * 4294967296 + Q0) * y * P = (Q1 * yn) * 4294967296 + Q0 * yn := by subst hyn; grind
    rw [this]; omega
  generalize Q1 * 4294967296 + Q0 = Q at *
  have hr : R0 = (U - Q * y) * P := by
    have : (U - Q * y) * P = U * P - Q * y * P := by grind
    omega
  have k0 : 0 ≤ U - Q * y := by
    have : 0 ≤ (U - Q * y) * P := by omega
    exact Int.nonneg_of_mul_nonneg_left this hP
  have k1 : U - Q * y < y := by
    have : (U - Q * y) * P < y * P := by omega
    exact Int.lt_of_mul_lt_mul_right this (by omega)
  have hd : U = (U - Q * y) + Q * y := by omega
  constructor
  · have := Int.add_mul_ediv_right (U - Q * y) Q (show y ≠ 0 by omega)
    rw [← hd, Int.ediv_eq_zero_of_lt k0 k1] at this
    omega
  · rw [hr, Int.mul_ediv_cancel _ (by omega)]
    have := Int.add_mul_emod_self_right (U - Q * y) Q y
    rw [← hd, Int.emod_eq_of_lt k0 k1] at this
    omega
theorem kn_dec {k yn1 r A : Int} (h : (k + 1) * yn1 + r = A) : k * yn1 + (r + yn1) = A := by
  have : (k + 1) * yn1 = k * yn1 + yn1 := by grind
  omega
/-- What holds of a guess q and its rest r. -/
structure Guess (A yn1 Q q r : Int) : Prop where
  r0 : 0 ≤ r
  r1 : r < 4294967296
  q0 : 0 ≤ q
  q1 : q ≤ 8589934592
  e : q * yn1 + r = A
  ge : Q ≤ q
def GuessV (A yn1 Q : Int) (u v : Value) : Prop := ∃ q r : Int, u = .int .u64 q ∧ v = .int .u64 r ∧ Guess A yn1 Q q r
theorem GuessV.mk {A yn1 Q q r : Int} {u v : Value} (hu : u = .int .u64 q) (hv : v = .int .u64 r) (h : Guess A yn1 Q q r) : GuessV A yn1 Q u v := ⟨q, r, hu, hv, h⟩
set_option maxHeartbeats 8000000 in
set_option maxRecDepth 100000 in
theorem Div64_core (hi lo y : Int) (s : Nat) (yn yn1 yn0 A L d1 d0 q1 p1 Q1 a1 a2 a3 R1 q0 p0 Q0 b1 b2 b3 R0 : Int) (h0 : 0 < hi) (h1 : hi < y) (h2 : y < 18446744073709551616) (h3 : 0 ≤ lo) (h4 : lo < 18446744073709551616) (hs : s < 64)
    (hyn : IntKind.u64.wrap (y * 2 ^ s) = yn) (hyn1 : yn / 4294967296 = yn1) (hyn0 : bits .and .u64 yn 4294967295 = yn0) (hA : bits .or .u64 (IntKind.u64.wrap (hi * 2 ^ s)) (lo / 2 ^ (64 - s)) = A)
    (hL : IntKind.u64.wrap (lo * 2 ^ s) = L) (hd1 : L / 4294967296 = d1) (hd0 : bits .and .u64 L 4294967295 = d0)
    (hq1 : A / yn1 = q1) (hp1 : q1 * yn1 = p1) (ha1 : IntKind.u64.wrap (A * 4294967296) = a1) (ha2 : IntKind.u64.wrap (a1 + d1) = a2) (ha3 : IntKind.u64.wrap (Q1 * yn) = a3) (hR1 : IntKind.u64.wrap (a2 - a3) = R1)
    (hq0 : R1 / yn1 = q0) (hp0 : q0 * yn1 = p0) (hb1 : IntKind.u64.wrap (R1 * 4294967296) = b1) (hb2 : IntKind.u64.wrap (b1 + d0) = b2) (hb3 : IntKind.u64.wrap (Q0 * yn) = b3) (hR0 : IntKind.u64.wrap (b2 - b3) = R0)
    (ny : Hid (yn = yn1 * 4294967296 + yn0)) (y1 : 0 < yn1) (y2 : yn1 < 4294967296) (y3 : 0 ≤ yn0) (y4 : yn0 < 4294967296) (A0 : 0 ≤ A) (A1 : A < yn) (yb : yn < 18446744073709551616)
    (e0 : 0 ≤ d1) (e1 : d1 < 4294967296) (e2 : 0 ≤ d0) (e3 : d0 < 4294967296)
    (HQ1 : Hid ((A * 4294967296 + d1) / yn = Q1)) (HQ0 : Hid ((R1 * 4294967296 + d0) / yn = Q0)) (B1 : 0 ≤ Q1) (B2 : Q1 < 4294967296) (B3 : 0 ≤ Q0) (B4 : Q0 < 4294967296) (C0 : 0 ≤ R1) (C1 : R1 < yn)
    (G1 : Hid (Guess A yn1 Q1 q1 (A - p1))) (G0 : Hid (Guess R1 yn1 Q0 q0 (R1 - p0))) (P1 : 0 ≤ p1) (P2 : p1 ≤ A) (P3 : 0 ≤ p0) (P4 : p0 ≤ R1) (U1 : 0 ≤ q1) (U2 : q1 ≤ 8589934592) (U3 : 0 ≤ q0) (U4 : q0 ≤ 8589934592)
    (HL : Hid (∀ w, Calls Try.prog 137 #[.int .u64 y] w fun e w' => e = .returned (.int .i64 s) ∧ w' = w)) (w : World) :
    Calls Try.prog 126 #[.int .u64 hi, .int .u64 lo, .int .u64 y] w fun e w' => e = .returned (.tuple #[.int .u64 (Q1 * 4294967296 + Q0), .int .u64 (R0 / 2 ^ s)]) ∧ w' = w := by
  have f1 : (y == 0) = false := by simp; omega
  have f2 : (hi == 0) = false := by simp; omega
  have f3 : ¬ yn1 = 0 := by omega
  go_enter Try.func126, Try.ntmps126
  go_wp2_with fail
  refine (HL.out _).mono ?_
  rintro e w1 ⟨rfl, rfl⟩
  clear HL
  go_wp2_with fail
  go_loop [15, 16] (fun u v => GuessV A yn1 Q1 u v) (fun u _ => (intOf u).toNat)
  case atStart => exact GuessV.mk (q := q1) (r := A - p1) (by first | rfl | (rw [hq1])) (by first | rfl | (rw [hq1, hp1]) | (rw [hp1])) G1.out
  case round =>
    obtain ⟨q, r, rfl, rfl, hg0⟩ := hrel
    have hg := Lib.hid hg0
    clear hg0
    have k0 := hg.out.r0
    have k1 := hg.out.r1
    have k2 := hg.out.q0
    have k3 := hg.out.q1
    have k5 := hg.out.ge
    by_cases c1 : q < 4294967296
    · obtain ⟨t, ht⟩ : ∃ t, q * yn0 = t := ⟨_, rfl⟩
      have t0 : 0 ≤ t := by rw [← ht]; exact Int.mul_nonneg k2 y3
      have t1 : t ≤ 18446744065119617025 := by rw [← ht]; exact (mul_bound q yn0 k2 (by omega) y3 (by omega)).2
      by_cases c2 : r * 4294967296 + d1 < t
      · have m : Q1 < q := by have := kn_more (d := d1) ny.out (by omega) hg.out.e (by rw [ht]; exact c2); rw [HQ1.out] at this; exact this
        obtain ⟨k, rfl⟩ : ∃ k, q = k + 1 := ⟨q - 1, by omega⟩
        have g2 : k * yn1 + (r + yn1) = A := kn_dec hg.out.e
        have G2 := Lib.hid g2
        clear g2
        by_cases c3 : r + yn1 < 4294967296
        · go_wp2_with fail
          go_round
          case rel => exact GuessV.mk (q := k) (r := r + yn1) (by go_num) rfl ⟨by omega, by omega, by omega, by omega, G2.out, by omega⟩
          case measure => simp [intOf]; omega
        · have e9 : Q1 = k := by have := kn_break (d := d1) ny.out y1 y4 y3 (by omega) (by omega) G2.out (by omega) (by omega); rw [HQ1.out] at this; omega
          subst e9
          go_wp2_with fail
          go_loop [18, 16] (fun u v => GuessV R1 yn1 Q0 u v) (fun u _ => (intOf u).toNat)
          case atStart => exact GuessV.mk (q := q0) (r := R1 - p0) (by first | rfl | (rw [hq0])) (by first | rfl | (rw [hq0, hp0]) | (rw [hp0])) G0.out
          case round =>
            obtain ⟨q, r, rfl, rfl, hg0⟩ := hrel
            have hg := Lib.hid hg0
            clear hg0
            have k0 := hg.out.r0
            have k1 := hg.out.r1
            have k2 := hg.out.q0
            have k3 := hg.out.q1
            have k5 := hg.out.ge
            by_cases c1 : q < 4294967296
            · obtain ⟨t, ht⟩ : ∃ t, q * yn0 = t := ⟨_, rfl⟩
              have t0 : 0 ≤ t := by rw [← ht]; exact Int.mul_nonneg k2 y3
              have t1 : t ≤ 18446744065119617025 := by rw [← ht]; exact (mul_bound q yn0 k2 (by omega) y3 (by omega)).2
              by_cases c2 : r * 4294967296 + d0 < t
              · have m : Q0 < q := by have := kn_more (d := d0) ny.out (by omega) hg.out.e (by rw [ht]; exact c2); rw [HQ0.out] at this; exact this
                obtain ⟨k, rfl⟩ : ∃ k, q = k + 1 := ⟨q - 1, by omega⟩
                have g2 : k * yn1 + (r + yn1) = R1 := kn_dec hg.out.e
                have G2 := Lib.hid g2
                clear g2
                by_cases c3 : r + yn1 < 4294967296
                · go_wp2_with fail
                  go_round
                  case rel => exact GuessV.mk (q := k) (r := r + yn1) (by go_num) rfl ⟨by omega, by omega, by omega, by omega, G2.out, by omega⟩
                  case measure => simp [intOf]; omega
                · have e9 : Q0 = k := by have := kn_break (d := d0) ny.out y1 y4 y3 (by omega) (by omega) G2.out (by omega) (by omega); rw [HQ0.out] at this; omega
                  subst e9
                  go_wp2_with fail
                  go_ret2
                  exact ⟨ret2i rfl rfl, rfl⟩
              · have e9 : Q0 = q := by have := kn_done (d := d0) ny.out (by omega) hg.out.e (by rw [ht]; omega); rw [HQ0.out] at this; omega
                subst e9
                go_wp2_with fail
                go_ret2
                exact ⟨ret2i rfl rfl, rfl⟩
            · obtain ⟨k, rfl⟩ : ∃ k, q = k + 1 := ⟨q - 1, by omega⟩
              have g2 : k * yn1 + (r + yn1) = R1 := kn_dec hg.out.e
              have G2 := Lib.hid g2
              clear g2
              by_cases c3 : r + yn1 < 4294967296
              · go_wp2_with fail
                go_round
                case rel => exact GuessV.mk (q := k) (r := r + yn1) (by go_num) rfl ⟨by omega, by omega, by omega, by omega, G2.out, by omega⟩
                case measure => simp [intOf]; omega
              · have e9 : Q0 = k := by have := kn_break (d := d0) ny.out y1 y4 y3 (by omega) (by omega) G2.out (by omega) (by omega); rw [HQ0.out] at this; omega
                subst e9
                go_wp2_with fail
                go_ret2
                exact ⟨ret2i rfl rfl, rfl⟩

      · have e9 : Q1 = q := by have := kn_done (d := d1) ny.out (by omega) hg.out.e (by rw [ht]; omega); rw [HQ1.out] at this; omega
        subst e9
        go_wp2_with fail
        go_loop [18, 16] (fun u v => GuessV R1 yn1 Q0 u v) (fun u _ => (intOf u).toNat)
        case atStart => exact GuessV.mk (q := q0) (r := R1 - p0) (by first | rfl | (rw [hq0])) (by first | rfl | (rw [hq0, hp0]) | (rw [hp0])) G0.out
        case round =>
          obtain ⟨q, r, rfl, rfl, hg0⟩ := hrel
          have hg := Lib.hid hg0
          clear hg0
          have k0 := hg.out.r0
          have k1 := hg.out.r1
          have k2 := hg.out.q0
          have k3 := hg.out.q1
          have k5 := hg.out.ge
          by_cases c1 : q < 4294967296
          · obtain ⟨t, ht⟩ : ∃ t, q * yn0 = t := ⟨_, rfl⟩
            have t0 : 0 ≤ t := by rw [← ht]; exact Int.mul_nonneg k2 y3
            have t1 : t ≤ 18446744065119617025 := by rw [← ht]; exact (mul_bound q yn0 k2 (by omega) y3 (by omega)).2
            by_cases c2 : r * 4294967296 + d0 < t
            · have m : Q0 < q := by have := kn_more (d := d0) ny.out (by omega) hg.out.e (by rw [ht]; exact c2); rw [HQ0.out] at this; exact this
              obtain ⟨k, rfl⟩ : ∃ k, q = k + 1 := ⟨q - 1, by omega⟩
              have g2 : k * yn1 + (r + yn1) = R1 := kn_dec hg.out.e
              have G2 := Lib.hid g2
              clear g2
              by_cases c3 : r + yn1 < 4294967296
              · go_wp2_with fail
                go_round
                case rel => exact GuessV.mk (q := k) (r := r + yn1) (by go_num) rfl ⟨by omega, by omega, by omega, by omega, G2.out, by omega⟩
                case measure => simp [intOf]; omega
              · have e9 : Q0 = k := by have := kn_break (d := d0) ny.out y1 y4 y3 (by omega) (by omega) G2.out (by omega) (by omega); rw [HQ0.out] at this; omega
                subst e9
                go_wp2_with fail
                go_ret2
                exact ⟨ret2i rfl rfl, rfl⟩
            · have e9 : Q0 = q := by have := kn_done (d := d0) ny.out (by omega) hg.out.e (by rw [ht]; omega); rw [HQ0.out] at this; omega
              subst e9
              go_wp2_with fail
              go_ret2
              exact ⟨ret2i rfl rfl, rfl⟩
          · obtain ⟨k, rfl⟩ : ∃ k, q = k + 1 := ⟨q - 1, by omega⟩
            have g2 : k * yn1 + (r + yn1) = R1 := kn_dec hg.out.e
            have G2 := Lib.hid g2
            clear g2
            by_cases c3 : r + yn1 < 4294967296
            · go_wp2_with fail
              go_round
              case rel => exact GuessV.mk (q := k) (r := r + yn1) (by go_num) rfl ⟨by omega, by omega, by omega, by omega, G2.out, by omega⟩
              case measure => simp [intOf]; omega
            · have e9 : Q0 = k := by have := kn_break (d := d0) ny.out y1 y4 y3 (by omega) (by omega) G2.out (by omega) (by omega); rw [HQ0.out] at this; omega
              subst e9
              go_wp2_with fail
              go_ret2
              exact ⟨ret2i rfl rfl, rfl⟩

    · obtain ⟨k, rfl⟩ : ∃ k, q = k + 1 := ⟨q - 1, by omega⟩
      have g2 : k * yn1 + (r + yn1) = A := kn_dec hg.out.e
      have G2 := Lib.hid g2
      clear g2
      by_cases c3 : r + yn1 < 4294967296
      · go_wp2_with fail
        go_round
        case rel => exact GuessV.mk (q := k) (r := r + yn1) (by go_num) rfl ⟨by omega, by omega, by omega, by omega, G2.out, by omega⟩
        case measure => simp [intOf]; omega
      · have e9 : Q1 = k := by have := kn_break (d := d1) ny.out y1 y4 y3 (by omega) (by omega) G2.out (by omega) (by omega); rw [HQ1.out] at this; omega
        subst e9
        go_wp2_with fail
        go_loop [18, 16] (fun u v => GuessV R1 yn1 Q0 u v) (fun u _ => (intOf u).toNat)
        case atStart => exact GuessV.mk (q := q0) (r := R1 - p0) (by first | rfl | (rw [hq0])) (by first | rfl | (rw [hq0, hp0]) | (rw [hp0])) G0.out
        case round =>
          obtain ⟨q, r, rfl, rfl, hg0⟩ := hrel
          have hg := Lib.hid hg0
          clear hg0
          have k0 := hg.out.r0
          have k1 := hg.out.r1
          have k2 := hg.out.q0
          have k3 := hg.out.q1
          have k5 := hg.out.ge
          by_cases c1 : q < 4294967296
          · obtain ⟨t, ht⟩ : ∃ t, q * yn0 = t := ⟨_, rfl⟩
            have t0 : 0 ≤ t := by rw [← ht]; exact Int.mul_nonneg k2 y3
            have t1 : t ≤ 18446744065119617025 := by rw [← ht]; exact (mul_bound q yn0 k2 (by omega) y3 (by omega)).2
            by_cases c2 : r * 4294967296 + d0 < t
            · have m : Q0 < q := by have := kn_more (d := d0) ny.out (by omega) hg.out.e (by rw [ht]; exact c2); rw [HQ0.out] at this; exact this
              obtain ⟨k, rfl⟩ : ∃ k, q = k + 1 := ⟨q - 1, by omega⟩
              have g2 : k * yn1 + (r + yn1) = R1 := kn_dec hg.out.e
              have G2 := Lib.hid g2
              clear g2
              by_cases c3 : r + yn1 < 4294967296
              · go_wp2_with fail
                go_round
                case rel => exact GuessV.mk (q := k) (r := r + yn1) (by go_num) rfl ⟨by omega, by omega, by omega, by omega, G2.out, by omega⟩
                case measure => simp [intOf]; omega
              · have e9 : Q0 = k := by have := kn_break (d := d0) ny.out y1 y4 y3 (by omega) (by omega) G2.out (by omega) (by omega); rw [HQ0.out] at this; omega
                subst e9
                go_wp2_with fail
                go_ret2
                exact ⟨ret2i rfl rfl, rfl⟩
            · have e9 : Q0 = q := by have := kn_done (d := d0) ny.out (by omega) hg.out.e (by rw [ht]; omega); rw [HQ0.out] at this; omega
              subst e9
              go_wp2_with fail
              go_ret2
              exact ⟨ret2i rfl rfl, rfl⟩
          · obtain ⟨k, rfl⟩ : ∃ k, q = k + 1 := ⟨q - 1, by omega⟩
            have g2 : k * yn1 + (r + yn1) = R1 := kn_dec hg.out.e
            have G2 := Lib.hid g2
            clear g2
            by_cases c3 : r + yn1 < 4294967296
            · go_wp2_with fail
              go_round
              case rel => exact GuessV.mk (q := k) (r := r + yn1) (by go_num) rfl ⟨by omega, by omega, by omega, by omega, G2.out, by omega⟩
              case measure => simp [intOf]; omega
            · have e9 : Q0 = k := by have := kn_break (d := d0) ny.out y1 y4 y3 (by omega) (by omega) G2.out (by omega) (by omega); rw [HQ0.out] at this; omega
              subst e9
              go_wp2_with fail
              go_ret2
              exact ⟨ret2i rfl rfl, rfl⟩


end Go.Proofs.Ytffpdaejemmgpaa.W
