/- This file holds the walks of bits.Add64, bits.Sub64 and rat.sum. -/
import Derived.Test.YtffpdaejemmgpaaG
import Derived.Laws.Externs
namespace Go.Proofs.Ytffpdaejemmgpaa.W
open Go.RowKit Go.Proofs.YtffpdaejemmgpaaW.PrintWords
set_option linter.unusedVariables false
set_option linter.unusedSimpArgs false
def sub64Entry : Array Value → Sem Value := fun args => do
  let (x, y, b) ← Extern.MathBitsCarry.three "Sub64" args
  pure (Extern.MathBitsCarry.pair ((x + Extern.MathBitsCarry.m64 - y - b) % Extern.MathBitsCarry.m64) (if x < y + b then 1 else 0))
theorem run_sub64 {P : Program} (x y b : Nat) (hb : b ≤ 1) (w : World) :
    (sub64Entry #[.int .u64 x, .int .u64 y, .int .u64 b]).run P w =
      .ok (.tuple #[.int .u64 (((x + 18446744073709551616 - y - b) % 18446744073709551616 : Nat) : Int), .int .u64 ((if x < y + b then 1 else 0 : Nat) : Int)]) w := by
  have : b = 0 ∨ b = 1 := by omega
  rcases this with rfl | rfl <;> rfl
theorem add64_run (x y c lo hi : Int) (hx : 0 ≤ x) (hy : 0 ≤ y) (hc0 : 0 ≤ c) (hc : c ≤ 1) (hlo : (x + y + c) % 18446744073709551616 = lo) (hhi : (x + y + c) / 18446744073709551616 = hi) (w : World) :
    (callFunc 135 #[.int .u64 x, .int .u64 y, .int .u64 c]).run Try.prog w = .ok (.value (.tuple #[.int .u64 lo, .int .u64 hi])) w := by
  rw [run_callFunc_extern Try.func135 (by kernel_rfl) (by kernel_rfl) (by kernel_rfl) (e := add64Entry) (by kernel_rfl), run_add64 x y c hx hy hc0 hc, hlo, hhi]
  rfl
theorem sub64_run (x y b d o : Int) (hx : 0 ≤ x) (hy : 0 ≤ y) (hy' : y < 18446744073709551616) (hb0 : 0 ≤ b) (hb : b ≤ 1) (hd : (x + 18446744073709551616 - y - b) % 18446744073709551616 = d) (ho : (if x < y + b then 1 else 0) = o) (w : World) :
    (callFunc 136 #[.int .u64 x, .int .u64 y, .int .u64 b]).run Try.prog w = .ok (.value (.tuple #[.int .u64 d, .int .u64 o])) w := by
  obtain ⟨X, rfl⟩ := Int.eq_ofNat_of_zero_le hx
  obtain ⟨Y, rfl⟩ := Int.eq_ofNat_of_zero_le hy
  obtain ⟨B, rfl⟩ := Int.eq_ofNat_of_zero_le hb0
  rw [run_callFunc_extern Try.func136 (by kernel_rfl) (by kernel_rfl) (by kernel_rfl) (e := sub64Entry) (by kernel_rfl), run_sub64 X Y B (by omega)]
  have e1 : (((X + 18446744073709551616 - Y - B) % 18446744073709551616 : Nat) : Int) = d := by rw [← hd]; omega
  have e2 : ((if X < Y + B then 1 else 0 : Nat) : Int) = o := by
    rw [← ho]
    by_cases h : X < Y + B
    · rw [if_pos h, if_pos (by omega)]; rfl
    · rw [if_neg h, if_neg (by omega)]; rfl
  rw [e1, e2]
  rfl
/-- The size of a sum of two products whose signs are m and n, and its sign. -/
def sumS (m n : Bool) (P R : Int) : Int × Bool := if m = n then (P + R, m) else if P < R then (R - P, n) else (P - R, m)
theorem ret3 {a b a' b' : Int} {c c' : Bool} (h : a = a') (h' : b = b') (h2 : c = c') : Ending.returned (.tuple #[.int .u64 a, .int .u64 b, .bool c]) = .returned (.tuple #[.int .u64 a', .int .u64 b', .bool c']) := by rw [h, h', h2]
theorem mul_i64 {a b : Nat} (ha : a ≤ 9223372036854775808) (hb : b ≤ 9223372036854775808) : (a : Int) * (b : Int) ≤ 85070591730234615865843651857942052864 ∧ 0 ≤ (a : Int) * (b : Int) := by
  have h := Nat.mul_le_mul ha hb
  have e : ((a * b : Nat) : Int) = (a : Int) * (b : Int) := by push_cast; rfl
  constructor
  · rw [← e]; have : (9223372036854775808 * 9223372036854775808 : Nat) = 85070591730234615865843651857942052864 := by decide
    omega
  · rw [← e]; omega
set_option maxHeartbeats 4000000 in
set_option maxRecDepth 100000 in
theorem sum_calls (a b c d P R S : Int) (sg : Bool) (ha : I64 a) (hb : 0 < b) (hb1 : b ≤ 9223372036854775807) (hc : I64 c) (hd : 0 < d) (hd1 : d ≤ 9223372036854775807)
    (hP : (a.natAbs : Int) * (b.natAbs : Int) = P) (hR : (c.natAbs : Int) * (d.natAbs : Int) = R) (hS : sumS (decide (a < 0)) (decide (c < 0)) P R = (S, sg)) (w : World) :
    Calls Try.prog 124 #[.int .i64 a, .int .i64 b, .int .i64 c, .int .i64 d] w fun e w' => e = .returned (.tuple #[.int .u64 (S / 18446744073709551616), .int .u64 (S % 18446744073709551616), .bool sg]) ∧ w' = w := by
  obtain ⟨a0, a1⟩ := ha
  obtain ⟨c0, c1⟩ := hc
  have bp := mul_i64 (show a.natAbs ≤ 9223372036854775808 by omega) (show b.natAbs ≤ 9223372036854775808 by omega)
  have br := mul_i64 (show c.natAbs ≤ 9223372036854775808 by omega) (show d.natAbs ≤ 9223372036854775808 by omega)
  rw [hP] at bp
  rw [hR] at br
  obtain ⟨ph, hph⟩ : ∃ x, P / 18446744073709551616 = x := ⟨_, rfl⟩
  obtain ⟨pl, hpl⟩ : ∃ x, P % 18446744073709551616 = x := ⟨_, rfl⟩
  obtain ⟨rh, hrh⟩ : ∃ x, R / 18446744073709551616 = x := ⟨_, rfl⟩
  obtain ⟨rl, hrl⟩ : ∃ x, R % 18446744073709551616 = x := ⟨_, rfl⟩
  have k1 : 0 ≤ ph ∧ ph ≤ 4611686018427387904 ∧ 0 ≤ pl ∧ pl < 18446744073709551616 := by omega
  have k2 : 0 ≤ rh ∧ rh ≤ 4611686018427387904 ∧ 0 ≤ rl ∧ rl < 18446744073709551616 := by omega
  have kp : P = ph * 18446744073709551616 + pl := by omega
  have kr : R = rh * 18446744073709551616 + rl := by omega
  have M1 : Hid (∀ w, Calls Try.prog 130 #[.int .u64 a.natAbs, .int .u64 b.natAbs] w fun e w' => e = .returned (.tuple #[.int .u64 ph, .int .u64 pl]) ∧ w' = w) :=
    Lib.hid (fun w => by have := Mul64_calls a.natAbs b.natAbs (by omega) (by omega) (by omega) (by omega) w; rw [hP, hph, hpl] at this; exact this)
  have M2 : Hid (∀ w, Calls Try.prog 130 #[.int .u64 c.natAbs, .int .u64 d.natAbs] w fun e w' => e = .returned (.tuple #[.int .u64 rh, .int .u64 rl]) ∧ w' = w) :=
    Lib.hid (fun w => by have := Mul64_calls c.natAbs d.natAbs (by omega) (by omega) (by omega) (by omega) w; rw [hR, hrh, hrl] at this; exact this)
  have KP := Lib.hid kp
  have KR := Lib.hid kr
  obtain ⟨k11, k12, k13, k14⟩ := k1
  obtain ⟨k21, k22, k23, k24⟩ := k2
  clear hP hR hph hpl hrh hrl bp br kp kr
  have hb' : decide (b < 0) = false := by simp; omega
  have hd' : decide (d < 0) = false := by simp; omega
  by_cases s1 : a < 0 <;> by_cases s2 : c < 0
  all_goals
    simp only [s1, s2, decide_true, decide_false, sumS, if_true, Bool.true_eq_false, Bool.false_eq_true, if_false] at hS
    first | (have s1' : decide (a < 0) = true := decide_eq_true s1) | (have s1' : decide (a < 0) = false := decide_eq_false s1)
    first | (have s2' : decide (c < 0) = true := decide_eq_true s2) | (have s2' : decide (c < 0) = false := decide_eq_false s2)
  · simp only [Prod.mk.injEq] at hS
    obtain ⟨hS1, hS2⟩ := hS
    have HS1 := Lib.hid hS1
    have HS2 := Lib.hid hS2
    clear hS1 hS2
    obtain ⟨lo1, e1⟩ : ∃ x, (pl + rl + 0) % 18446744073709551616 = x := ⟨_, rfl⟩
    obtain ⟨cy1, e2⟩ : ∃ x, (pl + rl + 0) / 18446744073709551616 = x := ⟨_, rfl⟩
    have v0 : 0 ≤ cy1 := by omega
    have v1 : cy1 ≤ 1 := by omega
    obtain ⟨hi1, e3⟩ : ∃ x, (ph + rh + cy1) % 18446744073709551616 = x := ⟨_, rfl⟩
    obtain ⟨cy2, e4⟩ : ∃ x, (ph + rh + cy1) / 18446744073709551616 = x := ⟨_, rfl⟩
    have A1 := fun w => add64_run pl rl 0 lo1 cy1 k13 k23 (by omega) (by omega) e1 e2 w
    have A2 := fun w => add64_run ph rh cy1 hi1 cy2 k11 k21 v0 v1 e3 e4 w
    have F1 : Hid (hi1 = S / 18446744073709551616) := Lib.hid (by have := KP.out; have := KR.out; have := HS1.out; omega)
    have F2 : Hid (lo1 = S % 18446744073709551616) := Lib.hid (by have := KP.out; have := KR.out; have := HS1.out; omega)
    clear e1 e2 e3 e4
    go_enter Try.func124, Try.ntmps124
    go_wp2_with (first | (go_at_call 92; refine (size_calls _ (by omega) (by omega) _).mono ?_; rintro e w' ⟨rfl, rfl⟩) | (go_at_call_of 130 a; refine (M1.out _).mono ?_; rintro e w' ⟨rfl, rfl⟩) | (go_at_call_of 130 c; refine (M2.out _).mono ?_; rintro e w' ⟨rfl, rfl⟩))
    go_ret3
    exact ⟨ret3 F1.out F2.out (by first | exact HS2.out | (rw [← HS2.out]; simp; done) | (rw [← HS2.out]; simp; omega)), rfl⟩
  · by_cases g1 : ph < rh
    · rw [if_pos (by have := KP.out; have := KR.out; omega)] at hS
      simp only [Prod.mk.injEq] at hS
      obtain ⟨hS1, hS2⟩ := hS
      have HS1 := Lib.hid hS1
      have HS2 := Lib.hid hS2
      clear hS1 hS2
      obtain ⟨lo1, e1⟩ : ∃ z, (rl + 18446744073709551616 - pl - 0) % 18446744073709551616 = z := ⟨_, rfl⟩
      obtain ⟨bo1, e2⟩ : ∃ z : Int, (if rl < pl + 0 then 1 else 0) = z := ⟨_, rfl⟩
      have v0 : 0 ≤ bo1 ∧ bo1 ≤ 1 := by rw [← e2]; split <;> omega
      obtain ⟨v0, v1⟩ := v0
      obtain ⟨hi1, e3⟩ : ∃ z, (rh + 18446744073709551616 - ph - bo1) % 18446744073709551616 = z := ⟨_, rfl⟩
      obtain ⟨bo2, e4⟩ : ∃ z : Int, (if rh < ph + bo1 then 1 else 0) = z := ⟨_, rfl⟩
      have A1 := fun w => sub64_run rl pl 0 lo1 bo1 (by omega) (by omega) (by omega) (by omega) (by omega) e1 e2 w
      have A2 := fun w => sub64_run rh ph bo1 hi1 bo2 (by omega) (by omega) (by omega) v0 v1 e3 e4 w
      have F1 : Hid (hi1 = S / 18446744073709551616) := Lib.hid (by have := KP.out; have := KR.out; have := HS1.out; split at e2 <;> omega)
      have F2 : Hid (lo1 = S % 18446744073709551616) := Lib.hid (by have := KP.out; have := KR.out; have := HS1.out; omega)
      clear e1 e2 e3 e4
      go_enter Try.func124, Try.ntmps124
      go_wp2_with (first | (go_at_call 92; refine (size_calls _ (by omega) (by omega) _).mono ?_; rintro e w' ⟨rfl, rfl⟩) | (go_at_call_of 130 a; refine (M1.out _).mono ?_; rintro e w' ⟨rfl, rfl⟩) | (go_at_call_of 130 c; refine (M2.out _).mono ?_; rintro e w' ⟨rfl, rfl⟩))
      go_ret3
      exact ⟨ret3 F1.out F2.out (by first | exact HS2.out | (rw [← HS2.out]; simp; done) | (rw [← HS2.out]; simp; omega)), rfl⟩
    · by_cases g2 : ph = rh
      · have g3 : (ph == rh) = true := by simpa using g2
        have G2 := Lib.hid g2
        by_cases g4 : pl < rl
        · clear g2
          rw [if_pos (by have := KP.out; have := KR.out; have := G2.out; omega)] at hS
          simp only [Prod.mk.injEq] at hS
          obtain ⟨hS1, hS2⟩ := hS
          have HS1 := Lib.hid hS1
          have HS2 := Lib.hid hS2
          clear hS1 hS2
          obtain ⟨lo1, e1⟩ : ∃ z, (rl + 18446744073709551616 - pl - 0) % 18446744073709551616 = z := ⟨_, rfl⟩
          obtain ⟨bo1, e2⟩ : ∃ z : Int, (if rl < pl + 0 then 1 else 0) = z := ⟨_, rfl⟩
          have v0 : 0 ≤ bo1 ∧ bo1 ≤ 1 := by rw [← e2]; split <;> omega
          obtain ⟨v0, v1⟩ := v0
          obtain ⟨hi1, e3⟩ : ∃ z, (rh + 18446744073709551616 - ph - bo1) % 18446744073709551616 = z := ⟨_, rfl⟩
          obtain ⟨bo2, e4⟩ : ∃ z : Int, (if rh < ph + bo1 then 1 else 0) = z := ⟨_, rfl⟩
          have A1 := fun w => sub64_run rl pl 0 lo1 bo1 (by omega) (by omega) (by omega) (by omega) (by omega) e1 e2 w
          have A2 := fun w => sub64_run rh ph bo1 hi1 bo2 (by omega) (by omega) (by omega) v0 v1 e3 e4 w
          have F1 : Hid (hi1 = S / 18446744073709551616) := Lib.hid (by have := KP.out; have := KR.out; have := G2.out; have := HS1.out; split at e2 <;> omega)
          have F2 : Hid (lo1 = S % 18446744073709551616) := Lib.hid (by have := KP.out; have := KR.out; have := G2.out; have := HS1.out; omega)
          clear e1 e2 e3 e4
          go_enter Try.func124, Try.ntmps124
          go_wp2_with (first | (go_at_call 92; refine (size_calls _ (by omega) (by omega) _).mono ?_; rintro e w' ⟨rfl, rfl⟩) | (go_at_call_of 130 a; refine (M1.out _).mono ?_; rintro e w' ⟨rfl, rfl⟩) | (go_at_call_of 130 c; refine (M2.out _).mono ?_; rintro e w' ⟨rfl, rfl⟩))
          go_ret3
          exact ⟨ret3 F1.out F2.out (by first | exact HS2.out | (rw [← HS2.out]; simp; done) | (rw [← HS2.out]; simp; omega)), rfl⟩
        · clear g2
          rw [if_neg (by have := KP.out; have := KR.out; have := G2.out; omega)] at hS
          simp only [Prod.mk.injEq] at hS
          obtain ⟨hS1, hS2⟩ := hS
          have HS1 := Lib.hid hS1
          have HS2 := Lib.hid hS2
          clear hS1 hS2
          obtain ⟨lo1, e1⟩ : ∃ z, (pl + 18446744073709551616 - rl - 0) % 18446744073709551616 = z := ⟨_, rfl⟩
          obtain ⟨bo1, e2⟩ : ∃ z : Int, (if pl < rl + 0 then 1 else 0) = z := ⟨_, rfl⟩
          have v0 : 0 ≤ bo1 ∧ bo1 ≤ 1 := by rw [← e2]; split <;> omega
          obtain ⟨v0, v1⟩ := v0
          obtain ⟨hi1, e3⟩ : ∃ z, (ph + 18446744073709551616 - rh - bo1) % 18446744073709551616 = z := ⟨_, rfl⟩
          obtain ⟨bo2, e4⟩ : ∃ z : Int, (if ph < rh + bo1 then 1 else 0) = z := ⟨_, rfl⟩
          have A1 := fun w => sub64_run pl rl 0 lo1 bo1 (by omega) (by omega) (by omega) (by omega) (by omega) e1 e2 w
          have A2 := fun w => sub64_run ph rh bo1 hi1 bo2 (by omega) (by omega) (by omega) v0 v1 e3 e4 w
          have F1 : Hid (hi1 = S / 18446744073709551616) := Lib.hid (by have := KP.out; have := KR.out; have := G2.out; have := HS1.out; split at e2 <;> omega)
          have F2 : Hid (lo1 = S % 18446744073709551616) := Lib.hid (by have := KP.out; have := KR.out; have := G2.out; have := HS1.out; omega)
          clear e1 e2 e3 e4
          go_enter Try.func124, Try.ntmps124
          go_wp2_with (first | (go_at_call 92; refine (size_calls _ (by omega) (by omega) _).mono ?_; rintro e w' ⟨rfl, rfl⟩) | (go_at_call_of 130 a; refine (M1.out _).mono ?_; rintro e w' ⟨rfl, rfl⟩) | (go_at_call_of 130 c; refine (M2.out _).mono ?_; rintro e w' ⟨rfl, rfl⟩))
          go_ret3
          exact ⟨ret3 F1.out F2.out (by first | exact HS2.out | (rw [← HS2.out]; simp; done) | (rw [← HS2.out]; simp; omega)), rfl⟩
      · have g3 : (ph == rh) = false := by simpa using g2
        rw [if_neg (by have := KP.out; have := KR.out; omega)] at hS
        simp only [Prod.mk.injEq] at hS
        obtain ⟨hS1, hS2⟩ := hS
        have HS1 := Lib.hid hS1
        have HS2 := Lib.hid hS2
        clear hS1 hS2
        obtain ⟨lo1, e1⟩ : ∃ z, (pl + 18446744073709551616 - rl - 0) % 18446744073709551616 = z := ⟨_, rfl⟩
        obtain ⟨bo1, e2⟩ : ∃ z : Int, (if pl < rl + 0 then 1 else 0) = z := ⟨_, rfl⟩
        have v0 : 0 ≤ bo1 ∧ bo1 ≤ 1 := by rw [← e2]; split <;> omega
        obtain ⟨v0, v1⟩ := v0
        obtain ⟨hi1, e3⟩ : ∃ z, (ph + 18446744073709551616 - rh - bo1) % 18446744073709551616 = z := ⟨_, rfl⟩
        obtain ⟨bo2, e4⟩ : ∃ z : Int, (if ph < rh + bo1 then 1 else 0) = z := ⟨_, rfl⟩
        have A1 := fun w => sub64_run pl rl 0 lo1 bo1 (by omega) (by omega) (by omega) (by omega) (by omega) e1 e2 w
        have A2 := fun w => sub64_run ph rh bo1 hi1 bo2 (by omega) (by omega) (by omega) v0 v1 e3 e4 w
        have F1 : Hid (hi1 = S / 18446744073709551616) := Lib.hid (by have := KP.out; have := KR.out; have := HS1.out; split at e2 <;> omega)
        have F2 : Hid (lo1 = S % 18446744073709551616) := Lib.hid (by have := KP.out; have := KR.out; have := HS1.out; omega)
        clear e1 e2 e3 e4
        go_enter Try.func124, Try.ntmps124
        go_wp2_with (first | (go_at_call 92; refine (size_calls _ (by omega) (by omega) _).mono ?_; rintro e w' ⟨rfl, rfl⟩) | (go_at_call_of 130 a; refine (M1.out _).mono ?_; rintro e w' ⟨rfl, rfl⟩) | (go_at_call_of 130 c; refine (M2.out _).mono ?_; rintro e w' ⟨rfl, rfl⟩))
        go_ret3
        exact ⟨ret3 F1.out F2.out (by first | exact HS2.out | (rw [← HS2.out]; simp; done) | (rw [← HS2.out]; simp; omega)), rfl⟩
  · by_cases g1 : ph < rh
    · rw [if_pos (by have := KP.out; have := KR.out; omega)] at hS
      simp only [Prod.mk.injEq] at hS
      obtain ⟨hS1, hS2⟩ := hS
      have HS1 := Lib.hid hS1
      have HS2 := Lib.hid hS2
      clear hS1 hS2
      obtain ⟨lo1, e1⟩ : ∃ z, (rl + 18446744073709551616 - pl - 0) % 18446744073709551616 = z := ⟨_, rfl⟩
      obtain ⟨bo1, e2⟩ : ∃ z : Int, (if rl < pl + 0 then 1 else 0) = z := ⟨_, rfl⟩
      have v0 : 0 ≤ bo1 ∧ bo1 ≤ 1 := by rw [← e2]; split <;> omega
      obtain ⟨v0, v1⟩ := v0
      obtain ⟨hi1, e3⟩ : ∃ z, (rh + 18446744073709551616 - ph - bo1) % 18446744073709551616 = z := ⟨_, rfl⟩
      obtain ⟨bo2, e4⟩ : ∃ z : Int, (if rh < ph + bo1 then 1 else 0) = z := ⟨_, rfl⟩
      have A1 := fun w => sub64_run rl pl 0 lo1 bo1 (by omega) (by omega) (by omega) (by omega) (by omega) e1 e2 w
      have A2 := fun w => sub64_run rh ph bo1 hi1 bo2 (by omega) (by omega) (by omega) v0 v1 e3 e4 w
      have F1 : Hid (hi1 = S / 18446744073709551616) := Lib.hid (by have := KP.out; have := KR.out; have := HS1.out; split at e2 <;> omega)
      have F2 : Hid (lo1 = S % 18446744073709551616) := Lib.hid (by have := KP.out; have := KR.out; have := HS1.out; omega)
      clear e1 e2 e3 e4
      go_enter Try.func124, Try.ntmps124
      go_wp2_with (first | (go_at_call 92; refine (size_calls _ (by omega) (by omega) _).mono ?_; rintro e w' ⟨rfl, rfl⟩) | (go_at_call_of 130 a; refine (M1.out _).mono ?_; rintro e w' ⟨rfl, rfl⟩) | (go_at_call_of 130 c; refine (M2.out _).mono ?_; rintro e w' ⟨rfl, rfl⟩))
      go_ret3
      exact ⟨ret3 F1.out F2.out (by first | exact HS2.out | (rw [← HS2.out]; simp; done) | (rw [← HS2.out]; simp; omega)), rfl⟩
    · by_cases g2 : ph = rh
      · have g3 : (ph == rh) = true := by simpa using g2
        have G2 := Lib.hid g2
        by_cases g4 : pl < rl
        · clear g2
          rw [if_pos (by have := KP.out; have := KR.out; have := G2.out; omega)] at hS
          simp only [Prod.mk.injEq] at hS
          obtain ⟨hS1, hS2⟩ := hS
          have HS1 := Lib.hid hS1
          have HS2 := Lib.hid hS2
          clear hS1 hS2
          obtain ⟨lo1, e1⟩ : ∃ z, (rl + 18446744073709551616 - pl - 0) % 18446744073709551616 = z := ⟨_, rfl⟩
          obtain ⟨bo1, e2⟩ : ∃ z : Int, (if rl < pl + 0 then 1 else 0) = z := ⟨_, rfl⟩
          have v0 : 0 ≤ bo1 ∧ bo1 ≤ 1 := by rw [← e2]; split <;> omega
          obtain ⟨v0, v1⟩ := v0
          obtain ⟨hi1, e3⟩ : ∃ z, (rh + 18446744073709551616 - ph - bo1) % 18446744073709551616 = z := ⟨_, rfl⟩
          obtain ⟨bo2, e4⟩ : ∃ z : Int, (if rh < ph + bo1 then 1 else 0) = z := ⟨_, rfl⟩
          have A1 := fun w => sub64_run rl pl 0 lo1 bo1 (by omega) (by omega) (by omega) (by omega) (by omega) e1 e2 w
          have A2 := fun w => sub64_run rh ph bo1 hi1 bo2 (by omega) (by omega) (by omega) v0 v1 e3 e4 w
          have F1 : Hid (hi1 = S / 18446744073709551616) := Lib.hid (by have := KP.out; have := KR.out; have := G2.out; have := HS1.out; split at e2 <;> omega)
          have F2 : Hid (lo1 = S % 18446744073709551616) := Lib.hid (by have := KP.out; have := KR.out; have := G2.out; have := HS1.out; omega)
          clear e1 e2 e3 e4
          go_enter Try.func124, Try.ntmps124
          go_wp2_with (first | (go_at_call 92; refine (size_calls _ (by omega) (by omega) _).mono ?_; rintro e w' ⟨rfl, rfl⟩) | (go_at_call_of 130 a; refine (M1.out _).mono ?_; rintro e w' ⟨rfl, rfl⟩) | (go_at_call_of 130 c; refine (M2.out _).mono ?_; rintro e w' ⟨rfl, rfl⟩))
          go_ret3
          exact ⟨ret3 F1.out F2.out (by first | exact HS2.out | (rw [← HS2.out]; simp; done) | (rw [← HS2.out]; simp; omega)), rfl⟩
        · clear g2
          rw [if_neg (by have := KP.out; have := KR.out; have := G2.out; omega)] at hS
          simp only [Prod.mk.injEq] at hS
          obtain ⟨hS1, hS2⟩ := hS
          have HS1 := Lib.hid hS1
          have HS2 := Lib.hid hS2
          clear hS1 hS2
          obtain ⟨lo1, e1⟩ : ∃ z, (pl + 18446744073709551616 - rl - 0) % 18446744073709551616 = z := ⟨_, rfl⟩
          obtain ⟨bo1, e2⟩ : ∃ z : Int, (if pl < rl + 0 then 1 else 0) = z := ⟨_, rfl⟩
          have v0 : 0 ≤ bo1 ∧ bo1 ≤ 1 := by rw [← e2]; split <;> omega
          obtain ⟨v0, v1⟩ := v0
          obtain ⟨hi1, e3⟩ : ∃ z, (ph + 18446744073709551616 - rh - bo1) % 18446744073709551616 = z := ⟨_, rfl⟩
          obtain ⟨bo2, e4⟩ : ∃ z : Int, (if ph < rh + bo1 then 1 else 0) = z := ⟨_, rfl⟩
          have A1 := fun w => sub64_run pl rl 0 lo1 bo1 (by omega) (by omega) (by omega) (by omega) (by omega) e1 e2 w
          have A2 := fun w => sub64_run ph rh bo1 hi1 bo2 (by omega) (by omega) (by omega) v0 v1 e3 e4 w
          have F1 : Hid (hi1 = S / 18446744073709551616) := Lib.hid (by have := KP.out; have := KR.out; have := G2.out; have := HS1.out; split at e2 <;> omega)
          have F2 : Hid (lo1 = S % 18446744073709551616) := Lib.hid (by have := KP.out; have := KR.out; have := G2.out; have := HS1.out; omega)
          clear e1 e2 e3 e4
          go_enter Try.func124, Try.ntmps124
          go_wp2_with (first | (go_at_call 92; refine (size_calls _ (by omega) (by omega) _).mono ?_; rintro e w' ⟨rfl, rfl⟩) | (go_at_call_of 130 a; refine (M1.out _).mono ?_; rintro e w' ⟨rfl, rfl⟩) | (go_at_call_of 130 c; refine (M2.out _).mono ?_; rintro e w' ⟨rfl, rfl⟩))
          go_ret3
          exact ⟨ret3 F1.out F2.out (by first | exact HS2.out | (rw [← HS2.out]; simp; done) | (rw [← HS2.out]; simp; omega)), rfl⟩
      · have g3 : (ph == rh) = false := by simpa using g2
        rw [if_neg (by have := KP.out; have := KR.out; omega)] at hS
        simp only [Prod.mk.injEq] at hS
        obtain ⟨hS1, hS2⟩ := hS
        have HS1 := Lib.hid hS1
        have HS2 := Lib.hid hS2
        clear hS1 hS2
        obtain ⟨lo1, e1⟩ : ∃ z, (pl + 18446744073709551616 - rl - 0) % 18446744073709551616 = z := ⟨_, rfl⟩
        obtain ⟨bo1, e2⟩ : ∃ z : Int, (if pl < rl + 0 then 1 else 0) = z := ⟨_, rfl⟩
        have v0 : 0 ≤ bo1 ∧ bo1 ≤ 1 := by rw [← e2]; split <;> omega
        obtain ⟨v0, v1⟩ := v0
        obtain ⟨hi1, e3⟩ : ∃ z, (ph + 18446744073709551616 - rh - bo1) % 18446744073709551616 = z := ⟨_, rfl⟩
        obtain ⟨bo2, e4⟩ : ∃ z : Int, (if ph < rh + bo1 then 1 else 0) = z := ⟨_, rfl⟩
        have A1 := fun w => sub64_run pl rl 0 lo1 bo1 (by omega) (by omega) (by omega) (by omega) (by omega) e1 e2 w
        have A2 := fun w => sub64_run ph rh bo1 hi1 bo2 (by omega) (by omega) (by omega) v0 v1 e3 e4 w
        have F1 : Hid (hi1 = S / 18446744073709551616) := Lib.hid (by have := KP.out; have := KR.out; have := HS1.out; split at e2 <;> omega)
        have F2 : Hid (lo1 = S % 18446744073709551616) := Lib.hid (by have := KP.out; have := KR.out; have := HS1.out; omega)
        clear e1 e2 e3 e4
        go_enter Try.func124, Try.ntmps124
        go_wp2_with (first | (go_at_call 92; refine (size_calls _ (by omega) (by omega) _).mono ?_; rintro e w' ⟨rfl, rfl⟩) | (go_at_call_of 130 a; refine (M1.out _).mono ?_; rintro e w' ⟨rfl, rfl⟩) | (go_at_call_of 130 c; refine (M2.out _).mono ?_; rintro e w' ⟨rfl, rfl⟩))
        go_ret3
        exact ⟨ret3 F1.out F2.out (by first | exact HS2.out | (rw [← HS2.out]; simp; done) | (rw [← HS2.out]; simp; omega)), rfl⟩
  · simp only [Prod.mk.injEq] at hS
    obtain ⟨hS1, hS2⟩ := hS
    have HS1 := Lib.hid hS1
    have HS2 := Lib.hid hS2
    clear hS1 hS2
    obtain ⟨lo1, e1⟩ : ∃ x, (pl + rl + 0) % 18446744073709551616 = x := ⟨_, rfl⟩
    obtain ⟨cy1, e2⟩ : ∃ x, (pl + rl + 0) / 18446744073709551616 = x := ⟨_, rfl⟩
    have v0 : 0 ≤ cy1 := by omega
    have v1 : cy1 ≤ 1 := by omega
    obtain ⟨hi1, e3⟩ : ∃ x, (ph + rh + cy1) % 18446744073709551616 = x := ⟨_, rfl⟩
    obtain ⟨cy2, e4⟩ : ∃ x, (ph + rh + cy1) / 18446744073709551616 = x := ⟨_, rfl⟩
    have A1 := fun w => add64_run pl rl 0 lo1 cy1 k13 k23 (by omega) (by omega) e1 e2 w
    have A2 := fun w => add64_run ph rh cy1 hi1 cy2 k11 k21 v0 v1 e3 e4 w
    have F1 : Hid (hi1 = S / 18446744073709551616) := Lib.hid (by have := KP.out; have := KR.out; have := HS1.out; omega)
    have F2 : Hid (lo1 = S % 18446744073709551616) := Lib.hid (by have := KP.out; have := KR.out; have := HS1.out; omega)
    clear e1 e2 e3 e4
    go_enter Try.func124, Try.ntmps124
    go_wp2_with (first | (go_at_call 92; refine (size_calls _ (by omega) (by omega) _).mono ?_; rintro e w' ⟨rfl, rfl⟩) | (go_at_call_of 130 a; refine (M1.out _).mono ?_; rintro e w' ⟨rfl, rfl⟩) | (go_at_call_of 130 c; refine (M2.out _).mono ?_; rintro e w' ⟨rfl, rfl⟩))
    go_ret3
    exact ⟨ret3 F1.out F2.out (by first | exact HS2.out | (rw [← HS2.out]; simp; done) | (rw [← HS2.out]; simp; omega)), rfl⟩
end Go.Proofs.Ytffpdaejemmgpaa.W
