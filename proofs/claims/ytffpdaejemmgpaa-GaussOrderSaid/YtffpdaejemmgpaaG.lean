/- This file holds the walks of bits.Div64 and bits.Rem64. -/
import Derived.Test.YtffpdaejemmgpaaF
namespace Go.Proofs.Ytffpdaejemmgpaa.W
open Go.RowKit Go.Proofs.YtffpdaejemmgpaaW.PrintWords
set_option linter.unusedVariables false
set_option linter.unusedSimpArgs false
theorem or_add (a b : Nat) (s : Nat) (hb : b < 2 ^ s) : a * 2 ^ s ||| b = a * 2 ^ s + b := by
  rw [← Nat.shiftLeft_eq, ← Nat.shiftLeft_add_eq_or_of_lt hb]
theorem or_u64 (x b : Int) (s : Nat) (hx : 0 ≤ x) (hb : 0 ≤ b) (hb1 : b < 2 ^ s) (h : x * 2 ^ s + b < 18446744073709551616) :
    bits BinOp.or IntKind.u64 (x * 2 ^ s) b = x * 2 ^ s + b := by
  obtain ⟨n, rfl⟩ := Int.eq_ofNat_of_zero_le hx
  obtain ⟨m, rfl⟩ := Int.eq_ofNat_of_zero_le hb
  have e : ((n : Int) * 2 ^ s) = ((n * 2 ^ s : Nat) : Int) := by push_cast; rfl
  have h1 : m < 2 ^ s := by
    have : ((2 ^ s : Nat) : Int) = 2 ^ s := by push_cast; rfl
    omega
  have hn : n * 2 ^ s < 18446744073709551616 := by omega
  have hm : m < 18446744073709551616 := by omega
  rw [e]
  have := bits_or_u64_nat (n * 2 ^ s) m hn hm
  rw [or_add _ _ _ h1] at this
  rw [this]; push_cast; rfl
theorem guess_start {A d yn yn1 yn0 : Int} (ny : yn = yn1 * 4294967296 + yn0) (y1 : 2147483648 ≤ yn1) (y2 : yn1 < 4294967296) (y3 : 0 ≤ yn0) (y4 : yn0 < 4294967296) (A0 : 0 ≤ A) (A1 : A < yn) (e0 : 0 ≤ d) (e1 : d < 4294967296) :
    Guess A yn1 ((A * 4294967296 + d) / yn) (A / yn1) (A - A / yn1 * yn1) ∧ 0 ≤ A / yn1 * yn1 ∧ A / yn1 * yn1 ≤ A ∧ 0 ≤ A / yn1 ∧ A / yn1 ≤ 8589934592 := by
  have k := kn_start ny y3 (by omega) A0 e0 e1
  have h := Int.mul_ediv_add_emod A yn1
  have h1 := Int.emod_lt_of_pos A (show 0 < yn1 by omega)
  have h2 := Int.emod_nonneg A (show yn1 ≠ 0 by omega)
  have hq : 0 ≤ A / yn1 := Int.ediv_nonneg A0 (by omega)
  have hc : yn1 * (A / yn1) = A / yn1 * yn1 := Int.mul_comm _ _
  have hb : A / yn1 ≤ 8589934592 := by
    apply div_le_of (by omega)
    omega
  have hm : 0 ≤ A / yn1 * yn1 := Int.mul_nonneg hq (by omega)
  rw [hc] at h
  refine ⟨⟨by omega, by omega, hq, hb, by omega, k⟩, hm, by omega, hq, hb⟩
theorem rest_wrap {X d M R : Int} (h : X * 4294967296 + d = M + R) (h0 : 0 ≤ R) (h1 : R < 18446744073709551616) : IntKind.u64.wrap (IntKind.u64.wrap (IntKind.u64.wrap (X * 4294967296) + d) - IntKind.u64.wrap M) = R := by
  simp only [wrap_u64]; omega
theorem div_le64 (y U : Int) (hy : 0 < y) : y * (U / y) + U % y = U := Int.mul_ediv_add_emod U y
set_option maxHeartbeats 1000000 in
set_option maxRecDepth 100000 in
theorem Div64_calls (hi lo y : Int) (h0 : 0 ≤ hi) (h1 : hi < y) (h2 : y < 18446744073709551616) (h3 : 0 ≤ lo) (h4 : lo < 18446744073709551616) (w : World) :
    Calls Try.prog 126 #[.int .u64 hi, .int .u64 lo, .int .u64 y] w fun e w' => e = .returned (.tuple #[.int .u64 ((hi * 18446744073709551616 + lo) / y), .int .u64 ((hi * 18446744073709551616 + lo) % y)]) ∧ Drawn w w' := by
  by_cases hz : hi = 0
  · subst hz
    have f1 : (y == 0) = false := by simp; omega
    have f2 : ¬ y = 0 := by omega
    have g1 : Hid (lo / y = (0 * 18446744073709551616 + lo) / y) := Lib.hid (by rw [Int.zero_mul, Int.zero_add])
    have g2 : Hid (lo % y = (0 * 18446744073709551616 + lo) % y) := Lib.hid (by rw [Int.zero_mul, Int.zero_add])
    have g3 := Int.emod_nonneg lo f2
    have g4 := Int.emod_lt_of_pos lo (show 0 < y by omega)
    go_enter Try.func126, Try.ntmps126
    go_wp2_with fail
    go_quiet (fail)
    go_wp2_with fail
    go_ret2
    exact ⟨ret2i g1.out g2.out, ⟨⟨_, rfl⟩⟩⟩
  · have hl : Nat.log2 y.toNat < 64 := (Nat.log2_lt (by omega)).2 (by omega)
    have l1 := Nat.log2_self_le (show y.toNat ≠ 0 by omega)
    have l2 := @Nat.lt_log2_self y.toNat
    have HL : Hid (∀ w, Calls Try.prog 137 #[.int .u64 y] w fun e w' => e = .returned (.int .i64 ((63 - Nat.log2 y.toNat : Nat) : Int)) ∧ w' = w) := Lib.hid (fun w => LeadingZeros64_calls y (by omega) h2 w)
    generalize hs : 63 - Nat.log2 y.toNat = s at HL
    have s1 : s < 64 := by omega
    have p0 : (0 : Int) < 2 ^ s := Int.pow_pos (by decide)
    have yl : 9223372036854775808 ≤ y * 2 ^ s := by
      have : 2 ^ 63 ≤ y.toNat * 2 ^ s := by
        calc 2 ^ 63 = 2 ^ (Nat.log2 y.toNat) * 2 ^ s := by rw [← Nat.pow_add]; congr 1; omega
          _ ≤ _ := Nat.mul_le_mul_right _ l1
      have e : ((y.toNat * 2 ^ s : Nat) : Int) = y * 2 ^ s := by push_cast; rw [Int.toNat_of_nonneg (by omega)]
      omega
    have yu : y * 2 ^ s < 18446744073709551616 := by
      have : y.toNat * 2 ^ s < 2 ^ 64 := by
        calc y.toNat * 2 ^ s < 2 ^ (Nat.log2 y.toNat + 1) * 2 ^ s := Nat.mul_lt_mul_of_pos_right l2 (Nat.two_pow_pos s)
          _ = 2 ^ 64 := by rw [← Nat.pow_add]; congr 1; omega
      have e : ((y.toNat * 2 ^ s : Nat) : Int) = y * 2 ^ s := by push_cast; rw [Int.toNat_of_nonneg (by omega)]
      omega
    clear hs l1 l2 hl
    have q0 : (0 : Int) < 2 ^ (64 - s) := Int.pow_pos (by decide)
    have pq : (2 : Int) ^ (64 - s) * 2 ^ s = 18446744073709551616 := by rw [← Int.pow_add, show 64 - s + s = 64 by omega]; rfl
    have hh : hi * 2 ^ s + 2 ^ s ≤ y * 2 ^ s := by
      have : (hi + 1) * 2 ^ s ≤ y * 2 ^ s := Int.mul_le_mul_of_nonneg_right (by omega) (by omega)
      have e : (hi + 1) * 2 ^ s = hi * 2 ^ s + 2 ^ s := by grind
      omega
    have hm : 0 ≤ hi * 2 ^ s := Int.mul_nonneg h0 (by omega)
    have lo1 : lo / 2 ^ (64 - s) < 2 ^ s := by
      apply (Int.ediv_lt_iff_lt_mul q0).2
      rw [Int.mul_comm, pq]; exact h4
    have lo0 : 0 ≤ lo / 2 ^ (64 - s) := Int.ediv_nonneg h3 (by omega)
    have lo2 : lo * 2 ^ s / 18446744073709551616 = lo / 2 ^ (64 - s) := by
      rw [← pq]; exact Int.mul_ediv_mul_of_pos_left _ _ p0
    have lo3 := Int.mul_ediv_add_emod (lo * 2 ^ s) 18446744073709551616
    rw [lo2] at lo3
    have lo4 := Int.emod_nonneg (lo * 2 ^ s) (show (18446744073709551616 : Int) ≠ 0 by decide)
    have lo5 := Int.emod_lt_of_pos (lo * 2 ^ s) (show (0 : Int) < 18446744073709551616 by decide)
    have hor := or_u64 hi (lo / 2 ^ (64 - s)) s h0 lo0 lo1 (by omega)
    have hw : IntKind.u64.wrap (hi * 2 ^ s) = hi * 2 ^ s := by rw [wrap_u64]; omega
    have hU : (hi * 2 ^ s + lo / 2 ^ (64 - s)) * 18446744073709551616 + lo * 2 ^ s % 18446744073709551616 = (hi * 18446744073709551616 + lo) * 2 ^ s := by
      have : (hi * 18446744073709551616 + lo) * 2 ^ s = hi * 2 ^ s * 18446744073709551616 + lo * 2 ^ s := by grind
      omega
    obtain ⟨A, hA⟩ : ∃ A, hi * 2 ^ s + lo / 2 ^ (64 - s) = A := ⟨_, rfl⟩
    obtain ⟨L, hL⟩ : ∃ L, lo * 2 ^ s % 18446744073709551616 = L := ⟨_, rfl⟩
    obtain ⟨yn, hyn⟩ : ∃ yn, y * 2 ^ s = yn := ⟨_, rfl⟩
    rw [hA] at hU hor
    rw [hL] at hU lo3 lo4 lo5
    rw [hyn] at yl yu hh
    have A0 : 0 ≤ A := by omega
    have A1 : A < yn := by omega
    have n0 : yn = yn / 4294967296 * 4294967296 + yn % 4294967296 := by omega
    obtain ⟨yn1, hyn1⟩ : ∃ x, yn / 4294967296 = x := ⟨_, rfl⟩
    obtain ⟨yn0, hyn0⟩ : ∃ x, yn % 4294967296 = x := ⟨_, rfl⟩
    rw [hyn1, hyn0] at n0
    obtain ⟨d1, hd1⟩ : ∃ x, L / 4294967296 = x := ⟨_, rfl⟩
    obtain ⟨d0, hd0⟩ : ∃ x, L % 4294967296 = x := ⟨_, rfl⟩
    have G1 := guess_start (d := d1) n0 (by omega) (by omega) (by omega) (by omega) A0 A1 (by omega) (by omega)
    have Q1b := kn_digit (A := A) (d := d1) (yn := yn) (by omega) A1 A0 (by omega) (by omega)
    have E1 := div_le64 yn (A * 4294967296 + d1) (by omega)
    have R1a := Int.emod_nonneg (A * 4294967296 + d1) (show yn ≠ 0 by omega)
    have R1b := Int.emod_lt_of_pos (A * 4294967296 + d1) (show 0 < yn by omega)
    rw [Int.mul_comm] at E1
    obtain ⟨Q1, hQ1⟩ : ∃ x, (A * 4294967296 + d1) / yn = x := ⟨_, rfl⟩
    obtain ⟨R1, hR1⟩ : ∃ x, (A * 4294967296 + d1) % yn = x := ⟨_, rfl⟩
    rw [hQ1] at G1 Q1b E1
    rw [hR1] at R1a R1b E1
    have G0 := guess_start (d := d0) n0 (by omega) (by omega) (by omega) (by omega) R1a R1b (by omega) (by omega)
    have Q0b := kn_digit (A := R1) (d := d0) (yn := yn) (by omega) R1b R1a (by omega) (by omega)
    have E0 := div_le64 yn (R1 * 4294967296 + d0) (by omega)
    have R0a := Int.emod_nonneg (R1 * 4294967296 + d0) (show yn ≠ 0 by omega)
    have R0b := Int.emod_lt_of_pos (R1 * 4294967296 + d0) (show 0 < yn by omega)
    rw [Int.mul_comm] at E0
    obtain ⟨Q0, hQ0⟩ : ∃ x, (R1 * 4294967296 + d0) / yn = x := ⟨_, rfl⟩
    obtain ⟨R0, hR0⟩ : ∃ x, (R1 * 4294967296 + d0) % yn = x := ⟨_, rfl⟩
    rw [hQ0] at G0 Q0b E0
    rw [hR0] at R0a R0b E0
    have K := kn_all p0 (show 0 < y by omega) hyn.symm hU (show L = d1 * 4294967296 + d0 by omega) E1.symm E0.symm R0a R0b
    refine (Div64_core hi lo y s yn yn1 yn0 A L d1 d0 (A / yn1) (A / yn1 * yn1) Q1 _ _ _ R1 (R1 / yn1) (R1 / yn1 * yn1) Q0 _ _ _ R0 (by omega) h1 h2 h3 h4 s1
      (by rw [hyn, wrap_u64]; omega) hyn1 (by rw [and32 _ (by omega) (by omega)]; exact hyn0) (by rw [hw]; exact hor) (by rw [wrap_u64]; exact hL) hd1 (by rw [and32 _ (by omega) (by omega)]; exact hd0)
      rfl rfl rfl rfl rfl (rest_wrap E1.symm R1a (by omega)) rfl rfl rfl rfl rfl (rest_wrap E0.symm R0a (by omega))
      (Lib.hid n0) (by omega) (by omega) (by omega) (by omega) A0 A1 yu (by omega) (by omega) (by omega) (by omega) (Lib.hid hQ1) (Lib.hid hQ0) Q1b.1 Q1b.2 Q0b.1 Q0b.2 R1a R1b
      (Lib.hid G1.1) (Lib.hid G0.1) G1.2.1 G1.2.2.1 G0.2.1 G0.2.2.1 G1.2.2.2.1 G1.2.2.2.2 G0.2.2.2.1 G0.2.2.2.2 HL w).mono ?_
    rintro e w' ⟨rfl, rfl⟩
    exact ⟨ret2i K.1 K.2, Drawn.refl _⟩
set_option maxHeartbeats 1000000 in
/-- The rest of two words by one. -/
theorem Rem64_calls (hi lo y : Int) (h0 : 0 ≤ hi) (h1 : hi < 18446744073709551616) (hy : 0 < y) (h2 : y < 18446744073709551616) (h3 : 0 ≤ lo) (h4 : lo < 18446744073709551616) (w : World) :
    Calls Try.prog 125 #[.int .u64 hi, .int .u64 lo, .int .u64 y] w fun e w' => e = .returned (.int .u64 ((hi * 18446744073709551616 + lo) % y)) ∧ Drawn w w' := by
  have e : (hi % y * 18446744073709551616 + lo) % y = (hi * 18446744073709551616 + lo) % y := by
    have := Int.mul_ediv_add_emod hi y
    have e2 : hi * 18446744073709551616 + lo = (hi % y * 18446744073709551616 + lo) + (hi / y * 18446744073709551616) * y := by
      have e3 : (hi / y * 18446744073709551616) * y = (y * (hi / y)) * 18446744073709551616 := by grind
      omega
    rw [e2, Int.add_mul_emod_self_right]
  have E := Lib.hid e
  have a1 := Int.emod_nonneg hi (show y ≠ 0 by omega)
  have a2 := Int.emod_lt_of_pos hi hy
  have f2 : ¬ y = 0 := by omega
  clear e
  go_enter Try.func125, Try.ntmps125
  go_wp2_with fail
  refine (Div64_calls (hi % y) lo y a1 a2 h2 h3 h4 _).mono ?_
  rintro e w1 ⟨rfl, hd⟩
  go_wp2_with fail
  go_ret
  exact ⟨ret_int E.out, hd⟩
end Go.Proofs.Ytffpdaejemmgpaa.W
