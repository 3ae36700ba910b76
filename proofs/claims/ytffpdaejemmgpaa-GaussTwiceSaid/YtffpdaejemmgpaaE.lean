/- This file holds the walk of bits.Len64. -/
import Derived.Test.YtffpdaejemmgpaaD
namespace Go.Proofs.Ytffpdaejemmgpaa.W
open Go.RowKit Go.Proofs.YtffpdaejemmgpaaW.PrintWords
set_option linter.unusedVariables false
set_option linter.unusedSimpArgs false
/-- How many bits a number below 256 has. -/
def len8 (i : Nat) : Nat := if i = 0 then 0 else Nat.log2 i + 1
theorem tab_use (s : ByteArray) (y : Int) (n : Nat) (hh : y.toNat < s.size) (h0 : 0 ≤ y) (h1 : y < 256) (hn : n ≤ 64)
    (hs : ∀ i : Nat, i < 256 → (s.data.toList.getD i 0).toNat = len8 i) : wrap64 ((n : Int) + wrap64 ((s[y.toNat]'hh).toNat : Int)) = ((n + len8 y.toNat : Nat) : Int) := by
  have h := hs y.toNat (by omega)
  have e : s.data.toList.getD y.toNat 0 = s[y.toNat]'hh := by
    rw [List.getD_eq_getElem?_getD, List.getElem?_eq_getElem (by simpa using hh)]; rfl
  rw [e] at h
  have hb := (s[y.toNat]'hh).toNat_lt
  rw [h] at hb ⊢
  unfold wrap64
  omega
theorem len8_log (y : Int) (k : Nat) (h0 : 0 < y) (h : y / 2 ^ k < 256) (h1 : 0 < y / 2 ^ k) : k + len8 (y / 2 ^ k).toNat = Nat.log2 y.toNat + 1 := by
  obtain ⟨n, rfl⟩ := Int.eq_ofNat_of_zero_le (show 0 ≤ y by omega)
  have e : ((n : Int) / 2 ^ k).toNat = n / 2 ^ k := by
    have : ((n : Int) / 2 ^ k) = ((n / 2 ^ k : Nat) : Int) := by rw [Int.natCast_ediv]; simp
    rw [this, Int.toNat_natCast]
  have hp : 0 < n / 2 ^ k := by
    have : ((n : Int) / 2 ^ k) = ((n / 2 ^ k : Nat) : Int) := by rw [Int.natCast_ediv]; simp
    omega
  rw [e, Int.toNat_natCast]
  unfold len8
  rw [if_neg (by omega)]
  have hn : n ≠ 0 := by omega
  have : Nat.log2 (n / 2 ^ k) + k = Nat.log2 n := by
    have a1 := Nat.log2_self_le (show n / 2 ^ k ≠ 0 by omega)
    have a2 := @Nat.lt_log2_self (n / 2 ^ k)
    have hk : 0 < 2 ^ k := Nat.two_pow_pos k
    have a3 : 2 ^ (Nat.log2 (n / 2 ^ k)) * 2 ^ k ≤ n := by
      calc 2 ^ (Nat.log2 (n / 2 ^ k)) * 2 ^ k ≤ n / 2 ^ k * 2 ^ k := Nat.mul_le_mul_right _ a1
        _ ≤ n := Nat.div_mul_le_self _ _
    have a4 : n < 2 ^ (Nat.log2 (n / 2 ^ k) + 1) * 2 ^ k := by
      rw [← Nat.div_lt_iff_lt_mul hk]; exact a2
    rw [← Nat.pow_add] at a3 a4
    symm
    rw [Nat.log2_eq_iff hn]
    exact ⟨a3, by rw [show Nat.log2 (n / 2 ^ k) + k + 1 = Nat.log2 (n / 2 ^ k) + 1 + k by omega]; exact a4⟩
  omega
theorem ret_tab (s : ByteArray) (y : Int) (n r : Nat) (hh : y.toNat < s.size) (h0 : 0 ≤ y) (h1 : y < 256) (hn : n ≤ 64) (hr : n + len8 y.toNat = r)
    (hs : ∀ i : Nat, i < 256 → (s.data.toList.getD i 0).toNat = len8 i) : Ending.returned (.int .i64 (wrap64 ((n : Int) + wrap64 ((s[y.toNat]'hh).toNat : Int)))) = .returned (.int .i64 (r : Int)) := by
  rw [tab_use s y n hh h0 h1 hn hs, hr]
theorem ret_tab0 (s : ByteArray) (y : Int) (r : Nat) (hh : y.toNat < s.size) (h0 : 0 ≤ y) (h1 : y < 256) (hr : 0 + len8 y.toNat = r)
    (hs : ∀ i : Nat, i < 256 → (s.data.toList.getD i 0).toNat = len8 i) : Ending.returned (.int .i64 (wrap64 (wrap64 ((s[y.toNat]'hh).toNat : Int)))) = .returned (.int .i64 (r : Int)) := by
  have h := ret_tab s y 0 r hh h0 h1 (by omega) hr hs
  simpa using h
set_option maxHeartbeats 2000000 in
set_option maxRecDepth 100000 in
theorem Len64_0 (y : Int) (h0 : 0 < y) (h2 : y < 18446744073709551616) (c1 : y < 4294967296) (c2 : y < 65536) (c3 : y < 256) (w : World) :
    Calls Try.prog 141 #[.int .u64 y] w fun e w' => e = .returned (.int .i64 ((Nat.log2 y.toNat + 1 : Nat) : Int)) ∧ w' = w := by
  have E := Lib.hid (len8_log y 0 h0 (by simp; omega) (by simp; omega))
  have E2 : Hid (y / 2 ^ 0 = y) := Lib.hid (by simp; try omega)
  have d1 : 0 ≤ y := by omega
  have d2 : y < 256 := by omega
  go_enter Try.func141, Try.ntmps141
  go_wp2_with fail
  go_ret
  refine ⟨ret_tab0 _ (y) _ _ (by omega) (by omega) (by have := E.out; rw [E2.out] at this; exact this) ?hs, rfl⟩
  case hs => decide +kernel
set_option maxHeartbeats 2000000 in
set_option maxRecDepth 100000 in
theorem Len64_8 (y : Int) (h0 : 0 < y) (h2 : y < 18446744073709551616) (c1 : y < 4294967296) (c2 : y < 65536) (c3 : ¬ y < 256) (w : World) :
    Calls Try.prog 141 #[.int .u64 y] w fun e w' => e = .returned (.int .i64 ((Nat.log2 y.toNat + 1 : Nat) : Int)) ∧ w' = w := by
  have E := Lib.hid (len8_log y 8 h0 (by simp; omega) (by simp; omega))
  have E2 : Hid (y / 2 ^ 8 = y / 256) := Lib.hid (by simp; try omega)
  have d1 : 0 ≤ y / 256 := by omega
  have d2 : y / 256 < 256 := by omega
  go_enter Try.func141, Try.ntmps141
  go_wp2_with fail
  go_ret
  refine ⟨ret_tab _ (y / 256) 8 _ _ (by omega) (by omega) (by omega) (by have := E.out; rw [E2.out] at this; exact this) ?hs, rfl⟩
  case hs => decide +kernel
set_option maxHeartbeats 2000000 in
set_option maxRecDepth 100000 in
theorem Len64_16 (y : Int) (h0 : 0 < y) (h2 : y < 18446744073709551616) (c1 : y < 4294967296) (c2 : ¬ y < 65536) (c3 : (y / 65536) < 256) (w : World) :
    Calls Try.prog 141 #[.int .u64 y] w fun e w' => e = .returned (.int .i64 ((Nat.log2 y.toNat + 1 : Nat) : Int)) ∧ w' = w := by
  have E := Lib.hid (len8_log y 16 h0 (by simp; omega) (by simp; omega))
  have E2 : Hid (y / 2 ^ 16 = y / 65536) := Lib.hid (by simp; try omega)
  have d1 : 0 ≤ y / 65536 := by omega
  have d2 : y / 65536 < 256 := by omega
  go_enter Try.func141, Try.ntmps141
  go_wp2_with fail
  go_ret
  refine ⟨ret_tab _ (y / 65536) 16 _ _ (by omega) (by omega) (by omega) (by have := E.out; rw [E2.out] at this; exact this) ?hs, rfl⟩
  case hs => decide +kernel
set_option maxHeartbeats 2000000 in
set_option maxRecDepth 100000 in
theorem Len64_24 (y : Int) (h0 : 0 < y) (h2 : y < 18446744073709551616) (c1 : y < 4294967296) (c2 : ¬ y < 65536) (c3 : ¬ (y / 65536) < 256) (w : World) :
    Calls Try.prog 141 #[.int .u64 y] w fun e w' => e = .returned (.int .i64 ((Nat.log2 y.toNat + 1 : Nat) : Int)) ∧ w' = w := by
  have E := Lib.hid (len8_log y 24 h0 (by simp; omega) (by simp; omega))
  have E2 : Hid (y / 2 ^ 24 = y / 65536 / 256) := Lib.hid (by simp; try omega)
  have d1 : 0 ≤ y / 65536 / 256 := by omega
  have d2 : y / 65536 / 256 < 256 := by omega
  go_enter Try.func141, Try.ntmps141
  go_wp2_with fail
  go_ret
  refine ⟨ret_tab _ (y / 65536 / 256) 24 _ _ (by omega) (by omega) (by omega) (by have := E.out; rw [E2.out] at this; exact this) ?hs, rfl⟩
  case hs => decide +kernel
set_option maxHeartbeats 2000000 in
set_option maxRecDepth 100000 in
theorem Len64_32 (y : Int) (h0 : 0 < y) (h2 : y < 18446744073709551616) (c1 : ¬ y < 4294967296) (c2 : (y / 4294967296) < 65536) (c3 : (y / 4294967296) < 256) (w : World) :
    Calls Try.prog 141 #[.int .u64 y] w fun e w' => e = .returned (.int .i64 ((Nat.log2 y.toNat + 1 : Nat) : Int)) ∧ w' = w := by
  have E := Lib.hid (len8_log y 32 h0 (by simp; omega) (by simp; omega))
  have E2 : Hid (y / 2 ^ 32 = y / 4294967296) := Lib.hid (by simp; try omega)
  have d1 : 0 ≤ y / 4294967296 := by omega
  have d2 : y / 4294967296 < 256 := by omega
  go_enter Try.func141, Try.ntmps141
  go_wp2_with fail
  go_ret
  refine ⟨ret_tab _ (y / 4294967296) 32 _ _ (by omega) (by omega) (by omega) (by have := E.out; rw [E2.out] at this; exact this) ?hs, rfl⟩
  case hs => decide +kernel
set_option maxHeartbeats 2000000 in
set_option maxRecDepth 100000 in
theorem Len64_40 (y : Int) (h0 : 0 < y) (h2 : y < 18446744073709551616) (c1 : ¬ y < 4294967296) (c2 : (y / 4294967296) < 65536) (c3 : ¬ (y / 4294967296) < 256) (w : World) :
    Calls Try.prog 141 #[.int .u64 y] w fun e w' => e = .returned (.int .i64 ((Nat.log2 y.toNat + 1 : Nat) : Int)) ∧ w' = w := by
  have E := Lib.hid (len8_log y 40 h0 (by simp; omega) (by simp; omega))
  have E2 : Hid (y / 2 ^ 40 = y / 4294967296 / 256) := Lib.hid (by simp; try omega)
  have d1 : 0 ≤ y / 4294967296 / 256 := by omega
  have d2 : y / 4294967296 / 256 < 256 := by omega
  go_enter Try.func141, Try.ntmps141
  go_wp2_with fail
  go_ret
  refine ⟨ret_tab _ (y / 4294967296 / 256) 40 _ _ (by omega) (by omega) (by omega) (by have := E.out; rw [E2.out] at this; exact this) ?hs, rfl⟩
  case hs => decide +kernel
set_option maxHeartbeats 2000000 in
set_option maxRecDepth 100000 in
theorem Len64_48 (y : Int) (h0 : 0 < y) (h2 : y < 18446744073709551616) (c1 : ¬ y < 4294967296) (c2 : ¬ (y / 4294967296) < 65536) (c3 : (y / 4294967296 / 65536) < 256) (w : World) :
    Calls Try.prog 141 #[.int .u64 y] w fun e w' => e = .returned (.int .i64 ((Nat.log2 y.toNat + 1 : Nat) : Int)) ∧ w' = w := by
  have E := Lib.hid (len8_log y 48 h0 (by simp; omega) (by simp; omega))
  have E2 : Hid (y / 2 ^ 48 = y / 4294967296 / 65536) := Lib.hid (by simp; try omega)
  have d1 : 0 ≤ y / 4294967296 / 65536 := by omega
  have d2 : y / 4294967296 / 65536 < 256 := by omega
  go_enter Try.func141, Try.ntmps141
  go_wp2_with fail
  go_ret
  refine ⟨ret_tab _ (y / 4294967296 / 65536) 48 _ _ (by omega) (by omega) (by omega) (by have := E.out; rw [E2.out] at this; exact this) ?hs, rfl⟩
  case hs => decide +kernel
set_option maxHeartbeats 2000000 in
set_option maxRecDepth 100000 in
theorem Len64_56 (y : Int) (h0 : 0 < y) (h2 : y < 18446744073709551616) (c1 : ¬ y < 4294967296) (c2 : ¬ (y / 4294967296) < 65536) (c3 : ¬ (y / 4294967296 / 65536) < 256) (w : World) :
    Calls Try.prog 141 #[.int .u64 y] w fun e w' => e = .returned (.int .i64 ((Nat.log2 y.toNat + 1 : Nat) : Int)) ∧ w' = w := by
  have E := Lib.hid (len8_log y 56 h0 (by simp; omega) (by simp; omega))
  have E2 : Hid (y / 2 ^ 56 = y / 4294967296 / 65536 / 256) := Lib.hid (by simp; try omega)
  have d1 : 0 ≤ y / 4294967296 / 65536 / 256 := by omega
  have d2 : y / 4294967296 / 65536 / 256 < 256 := by omega
  go_enter Try.func141, Try.ntmps141
  go_wp2_with fail
  go_ret
  refine ⟨ret_tab _ (y / 4294967296 / 65536 / 256) 56 _ _ (by omega) (by omega) (by omega) (by have := E.out; rw [E2.out] at this; exact this) ?hs, rfl⟩
  case hs => decide +kernel
theorem Len64_calls (y : Int) (h0 : 0 < y) (h2 : y < 18446744073709551616) (w : World) :
    Calls Try.prog 141 #[.int .u64 y] w fun e w' => e = .returned (.int .i64 ((Nat.log2 y.toNat + 1 : Nat) : Int)) ∧ w' = w := by
  by_cases c1 : y < 4294967296
  · by_cases c2 : y < 65536
    · by_cases c3 : y < 256
      · exact Len64_0 y h0 h2 c1 c2 c3 w
      · exact Len64_8 y h0 h2 c1 c2 c3 w
    · by_cases c3 : (y / 65536) < 256
      · exact Len64_16 y h0 h2 c1 c2 c3 w
      · exact Len64_24 y h0 h2 c1 c2 c3 w
  · by_cases c2 : (y / 4294967296) < 65536
    · by_cases c3 : (y / 4294967296) < 256
      · exact Len64_32 y h0 h2 c1 c2 c3 w
      · exact Len64_40 y h0 h2 c1 c2 c3 w
    · by_cases c3 : (y / 4294967296 / 65536) < 256
      · exact Len64_48 y h0 h2 c1 c2 c3 w
      · exact Len64_56 y h0 h2 c1 c2 c3 w
set_option maxHeartbeats 2000000 in
theorem LeadingZeros64_calls (y : Int) (h0 : 0 < y) (h2 : y < 18446744073709551616) (w : World) :
    Calls Try.prog 137 #[.int .u64 y] w fun e w' => e = .returned (.int .i64 ((63 - Nat.log2 y.toNat : Nat) : Int)) ∧ w' = w := by
  have hl : Nat.log2 y.toNat < 64 := (Nat.log2_lt (by omega)).2 (by omega)
  generalize hL : Nat.log2 y.toNat = L at *
  have HL := Lib.hid hL
  clear hL
  go_enter Try.func137, Try.ntmps137
  go_wp2_with fail
  refine (Len64_calls y h0 h2 _).mono ?_
  rintro e w1 ⟨rfl, rfl⟩
  rw [HL.out]
  go_wp2_with fail
  go_ret
  exact ⟨ret_int (by push_cast; first | omega | (unfold wrap64; omega)), rfl⟩
end Go.Proofs.Ytffpdaejemmgpaa.W
