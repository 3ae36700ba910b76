/- This file holds the walk of rat.Add. -/
import Derived.Test.YtffpdaejemmgpaaH
namespace Go.Proofs.Ytffpdaejemmgpaa.W
open Go.RowKit Go.Proofs.YtffpdaejemmgpaaW.PrintWords
set_option linter.unusedVariables false
set_option linter.unusedSimpArgs false
/-- rat.Add, of right fractions. -/
def addS (a b : Q) : Q × Int :=
  let g := Nat.gcd a.d.natAbs b.d.natAbs
  let s := sumS (decide (a.n < 0)) (decide (b.n < 0)) ((a.n.natAbs : Int) * (b.d.natAbs / g : Nat)) ((b.n.natAbs : Int) * (a.d.natAbs / g : Nat))
  let p := Nat.gcd g (s.1.natAbs % g)
  if s.1 = 0 then (⟨0, 1⟩, 0) else if (p : Int) ≤ s.1 / 18446744073709551616 then (⟨0, 0⟩, 3) else putS (s.1.natAbs / p) ((a.d.natAbs / g) * (b.d.natAbs / p)) s.2
theorem sumS_nonneg {m n : Bool} {P R : Int} (hP : 0 ≤ P) (hR : 0 ≤ R) : 0 ≤ (sumS m n P R).1 := by
  unfold sumS; split
  · dsimp only; omega
  · split <;> dsimp only <;> omega
theorem or_zero (h l : Int) (h0 : 0 ≤ h) (h1 : h < 18446744073709551616) (l0 : 0 ≤ l) (l1 : l < 18446744073709551616) (z : h = 0 ∧ l = 0) : (bits BinOp.or IntKind.u64 h l == 0) = true := by
  obtain ⟨rfl, rfl⟩ := z; decide
theorem or_some (h l : Int) (h0 : 0 ≤ h) (h1 : h < 18446744073709551616) (l0 : 0 ≤ l) (l1 : l < 18446744073709551616) (z : ¬ (h = 0 ∧ l = 0)) : (bits BinOp.or IntKind.u64 h l == 0) = false := by
  obtain ⟨n, rfl⟩ := Int.eq_ofNat_of_zero_le h0
  obtain ⟨m, rfl⟩ := Int.eq_ofNat_of_zero_le l0
  have := bits_or_u64_nat n m (by omega) (by omega)
  rw [this]
  simp only [beq_eq_false_iff_ne]
  intro e
  apply z
  have e2 : n ||| m = 0 := by omega
  have := Nat.or_eq_zero_iff.1 e2
  omega
theorem addS_zero {a b : Q} {S : Int} {sg : Bool} (h : sumS (decide (a.n < 0)) (decide (b.n < 0)) ((a.n.natAbs : Int) * (b.d.natAbs / Nat.gcd a.d.natAbs b.d.natAbs : Nat)) ((b.n.natAbs : Int) * (a.d.natAbs / Nat.gcd a.d.natAbs b.d.natAbs : Nat)) = (S, sg)) (h0 : S = 0) : addS a b = (⟨0, 1⟩, 0) := by
  simp only [addS, h]; rw [if_pos h0]
theorem addS_over {a b : Q} {S : Int} {sg : Bool} (h : sumS (decide (a.n < 0)) (decide (b.n < 0)) ((a.n.natAbs : Int) * (b.d.natAbs / Nat.gcd a.d.natAbs b.d.natAbs : Nat)) ((b.n.natAbs : Int) * (a.d.natAbs / Nat.gcd a.d.natAbs b.d.natAbs : Nat)) = (S, sg)) (h0 : S ≠ 0)
    (h1 : (Nat.gcd (Nat.gcd a.d.natAbs b.d.natAbs) (S.natAbs % Nat.gcd a.d.natAbs b.d.natAbs) : Int) ≤ S / 18446744073709551616) : addS a b = (⟨0, 0⟩, 3) := by
  simp only [addS, h]; rw [if_neg h0, if_pos h1]
theorem addS_put {a b : Q} {S : Int} {sg : Bool} (h : sumS (decide (a.n < 0)) (decide (b.n < 0)) ((a.n.natAbs : Int) * (b.d.natAbs / Nat.gcd a.d.natAbs b.d.natAbs : Nat)) ((b.n.natAbs : Int) * (a.d.natAbs / Nat.gcd a.d.natAbs b.d.natAbs : Nat)) = (S, sg)) (h0 : S ≠ 0)
    (h1 : ¬ (Nat.gcd (Nat.gcd a.d.natAbs b.d.natAbs) (S.natAbs % Nat.gcd a.d.natAbs b.d.natAbs) : Int) ≤ S / 18446744073709551616) :
    addS a b = putS (S.natAbs / Nat.gcd (Nat.gcd a.d.natAbs b.d.natAbs) (S.natAbs % Nat.gcd a.d.natAbs b.d.natAbs)) ((a.d.natAbs / Nat.gcd a.d.natAbs b.d.natAbs) * (b.d.natAbs / Nat.gcd (Nat.gcd a.d.natAbs b.d.natAbs) (S.natAbs % Nat.gcd a.d.natAbs b.d.natAbs))) sg := by
  simp only [addS, h]; rw [if_neg h0, if_neg h1]
set_option maxHeartbeats 4000000 in
set_option maxRecDepth 100000 in
theorem Add_core (an ad bn bd g x1 y1 H L r p n X y2 D XD rn rd re : Int) (sg : Bool) (a0 : -9223372036854775808 ≤ an) (a1 : an ≤ 9223372036854775807) (a2 : 0 < ad) (a3 : ad ≤ 9223372036854775807)
    (b0 : -9223372036854775808 ≤ bn) (b1 : bn ≤ 9223372036854775807) (b2 : 0 < bd) (b3 : bd ≤ 9223372036854775807) (gp : 0 < g) (g1 : g ≤ 9223372036854775807) (pp : 0 < p) (p1 : p ≤ 9223372036854775807)
    (h0 : 0 ≤ H) (h1 : H ≤ 9223372036854775808) (l0 : 0 ≤ L) (l1 : L < 18446744073709551616) (x1b : 0 ≤ x1) (x1c : x1 ≤ 9223372036854775807) (y1b : 0 ≤ y1) (y1c : y1 ≤ 9223372036854775807)
    (RA : Hid (∀ w, Calls Try.prog 57 #[.agg #[.int .i64 an, .int .i64 ad]] w fun e w' => e = .returned (.bool true) ∧ Below w.heap.size w w'))
    (RB : Hid (∀ w, Calls Try.prog 57 #[.agg #[.int .i64 bn, .int .i64 bd]] w fun e w' => e = .returned (.bool true) ∧ Below w.heap.size w w'))
    (HC : Hid (∀ w, Calls Try.prog 91 #[.int .u64 (ad.natAbs : Int), .int .u64 (bd.natAbs : Int)] w fun e w' => e = .returned (.int .u64 g) ∧ Drawn w w'))
    (E1 : Hid (ad / g = x1)) (E2 : Hid (bd / g = y1)) (E3 : Hid (IntKind.u64.wrap ((ad.natAbs : Int) / g) = x1)) (E4 : Hid (IntKind.u64.wrap ((bd.natAbs : Int) / p) = y2))
    (HM : Hid (∀ w, Calls Try.prog 124 #[.int .i64 an, .int .i64 y1, .int .i64 bn, .int .i64 x1] w fun e w' => e = .returned (.tuple #[.int .u64 H, .int .u64 L, .bool sg]) ∧ w' = w))
    (HRm : Hid (∀ w, Calls Try.prog 125 #[.int .u64 H, .int .u64 L, .int .u64 g] w fun e w' => e = .returned (.int .u64 r) ∧ Drawn w w'))
    (HC2 : Hid (∀ w, Calls Try.prog 91 #[.int .u64 g, .int .u64 r] w fun e w' => e = .returned (.int .u64 p) ∧ Drawn w w'))
    (HDv : Hid (H < p → ∀ w, Calls Try.prog 126 #[.int .u64 H, .int .u64 L, .int .u64 p] w fun e w' => e = .returned (.tuple #[.int .u64 n, .int .u64 X]) ∧ Drawn w w'))
    (HPf : Hid (D < 18446744073709551616 → ∀ w, Calls Try.prog 114 #[.int .u64 x1, .int .u64 y2] w fun e w' => e = .returned (.tuple #[.int .u64 D, .bool true]) ∧ w' = w))
    (HPo : Hid (¬ D < 18446744073709551616 → ∀ w, Calls Try.prog 114 #[.int .u64 x1, .int .u64 y2] w fun e w' => e = .returned (.tuple #[.int .u64 XD, .bool false]) ∧ w' = w))
    (HPut : Hid (¬ (H = 0 ∧ L = 0) → H < p → D < 18446744073709551616 → ∀ w, Calls Try.prog 115 #[.int .u64 n, .int .u64 D, .bool sg] w fun e w' => e = .returned (.tuple #[.agg #[.int .i64 rn, .int .i64 rd], .int .i64 re]) ∧ Below w.heap.size w w'))
    (HAZ : Hid (H = 0 ∧ L = 0 → (((⟨rn, rd⟩, re) : Q × Int) = (⟨0, 1⟩, 0)))) (HAO : Hid (¬ (H = 0 ∧ L = 0) → p ≤ H → (((⟨rn, rd⟩, re) : Q × Int) = (⟨0, 0⟩, 3))))
    (HOv : Hid (¬ (H = 0 ∧ L = 0) → H < p → ¬ D < 18446744073709551616 → (((⟨rn, rd⟩, re) : Q × Int) = (⟨0, 0⟩, 3)))) (w : World) :
    Calls Try.prog 104 #[.agg #[.int .i64 an, .int .i64 ad], .agg #[.int .i64 bn, .int .i64 bd]] w fun e w' => e = qe (⟨rn, rd⟩, re) ∧ Below w.heap.size w w' := by
  have gz : ¬ g = 0 := by omega
  have pz : ¬ p = 0 := by omega
  go_enter Try.func104, Try.ntmps104
  go_wp2_with fail
  refine (RA.out _).mono ?_
  rintro e w1 ⟨rfl, hw1⟩
  have B1 : Below w.heap.size w w1 := bw_then (by repeat (first | exact Below.refl _ _ | assumption | exact Hid.out (by assumption) | (with_reducible first | refine bw_drewN ?_ _ | refine bw_alloc ?_ _ | refine bw_drew ?_) | (refine bw_set ?_ (by first | exact Nat.le_refl _ | (simp; done) | (simp; omega) | omega) _))) hw1
  have hR1 : w1.heap[w.heap.size + 1 + 1]? = some (.cells #[.int .i64 0, .int .i64 0] 36 (0, 0)) := blk_below (blk_new' (by simp)) hw1
  have hA1 : w1.heap[w.heap.size]? = some (.cells #[.int .i64 an, .int .i64 ad] 36 (0, 0)) := blk_below (blk_alloc (blk_alloc (blk_new _ _) _) _) hw1
  have hB1 : w1.heap[w.heap.size + 1]? = some (.cells #[.int .i64 bn, .int .i64 bd] 36 (0, 0)) := blk_below (blk_alloc (blk_new' (by simp)) _) hw1
  have hB1_c0 : w1.cell? ⟨w.heap.size + 1, 0, none⟩ = some (.int .i64 bn) := blk_cell hB1 0; have hB1_f0 : w1.frozen? ⟨w.heap.size + 1, 0, none⟩ = false := blk_frozen hB1 0; have hB1_c1 : w1.cell? ⟨w.heap.size + 1, 1, none⟩ = some (.int .i64 bd) := blk_cell hB1 1; have hB1_f1 : w1.frozen? ⟨w.heap.size + 1, 1, none⟩ = false := blk_frozen hB1 1
  have hz1 : w.heap.size + 2 < w1.heap.size := by have := hw1.size; simp at this; omega
  go_wp2_with fail
  refine (RB.out _).mono ?_
  rintro e w2 ⟨rfl, hw2⟩
  have B2 : Below w.heap.size w w2 := bw_then B1 hw2
  have hR2 := blk_below hR1 hw2
  have hA2 := blk_below hA1 hw2
  have hB2 := blk_below hB1 hw2
  have hB2_c0 : w2.cell? ⟨w.heap.size + 1, 0, none⟩ = some (.int .i64 bn) := blk_cell hB2 0; have hB2_f0 : w2.frozen? ⟨w.heap.size + 1, 0, none⟩ = false := blk_frozen hB2 0; have hB2_c1 : w2.cell? ⟨w.heap.size + 1, 1, none⟩ = some (.int .i64 bd) := blk_cell hB2 1; have hB2_f1 : w2.frozen? ⟨w.heap.size + 1, 1, none⟩ = false := blk_frozen hB2 1
  have hA2_c0 : w2.cell? ⟨w.heap.size, 0, none⟩ = some (.int .i64 an) := blk_cell hA2 0; have hA2_f0 : w2.frozen? ⟨w.heap.size, 0, none⟩ = false := blk_frozen hA2 0; have hA2_c1 : w2.cell? ⟨w.heap.size, 1, none⟩ = some (.int .i64 ad) := blk_cell hA2 1; have hA2_f1 : w2.frozen? ⟨w.heap.size, 1, none⟩ = false := blk_frozen hA2 1
  have hR2_c0 : w2.cell? ⟨w.heap.size + 1 + 1, 0, none⟩ = some (.int .i64 0) := blk_cell hR2 0; have hR2_f0 : w2.frozen? ⟨w.heap.size + 1 + 1, 0, none⟩ = false := blk_frozen hR2 0; have hR2_c1 : w2.cell? ⟨w.heap.size + 1 + 1, 1, none⟩ = some (.int .i64 0) := blk_cell hR2 1; have hR2_f1 : w2.frozen? ⟨w.heap.size + 1 + 1, 1, none⟩ = false := blk_frozen hR2 1
  have hz2 : w.heap.size + 2 < w2.heap.size := by have := hw2.size; omega
  clear hB1_c0 hB1_f0 hB1_c1 hB1_f1 hw1 hR1 hA1 hB1 B1 hz1
  go_wp2_with fail
  go_quiet (first | (go_at_call 92; exact Calls.quiet_of_same (size_calls _ (by omega) (by omega) _)) | (go_at_call 91; exact Calls.quiet_of ((HC.out _).mono (fun _ _ h => ⟨h.1, h.2.out⟩))))
  go_wp2_with fail
  have E1o := E1.out
  have E2o := E2.out
  go_quiet (first | (go_at_call 124; exact quiet_add_same (HM.out _)))
  clear E1o E2o
  by_cases hz : H = 0 ∧ L = 0
  · have o1 := or_zero H L h0 (by omega) l0 l1 hz
    have F := Lib.hid (HAZ.out hz)
    clear hz
    go_wp2_with fail
    refine bodyPost_ret (results_ct rfl _ _ (w.heap.size + 1 + 1) 36 #[.int .i64 0, .int .i64 1] (0, 0) _ rfl (blk2 (blk_drewN hR2 _)) Try.underlying36 rfl (by kernel_rfl)) rfl ?_
    exact ⟨qe_of F.out.symm rfl, (by repeat (first | exact Below.refl _ _ | assumption | exact Hid.out (by assumption) | (with_reducible first | refine bw_drewN ?_ _ | refine bw_alloc ?_ _ | refine bw_drew ?_) | (refine bw_set ?_ (by first | exact Nat.le_refl _ | (simp; done) | (simp; omega) | omega) _)))⟩
  · have o1 := or_some H L h0 (by omega) l0 l1 hz
    have Z := Lib.hid hz
    clear hz
    go_wp2_with fail
    refine (HRm.out _).mono ?_
    rintro e w3 ⟨rfl, ⟨⟨m3, rfl⟩⟩⟩
    go_wp2_with fail
    refine (HC2.out _).mono ?_
    rintro e w3 ⟨rfl, ⟨⟨m4, rfl⟩⟩⟩
    by_cases hp : p ≤ H
    · have F := Lib.hid (HAO.out Z.out hp)
      go_wp2_with fail
      refine bodyPost_ret (results_ct rfl _ _ (w.heap.size + 1 + 1) 36 #[.int .i64 0, .int .i64 0] (0, 0) _ rfl (blk2 (blk_drewN hR2 _)) Try.underlying36 rfl (by kernel_rfl)) rfl ?_
      exact ⟨qe_of F.out.symm rfl, (by repeat (first | exact Below.refl _ _ | assumption | exact Hid.out (by assumption) | (with_reducible first | refine bw_drewN ?_ _ | refine bw_alloc ?_ _ | refine bw_drew ?_) | (refine bw_set ?_ (by first | exact Nat.le_refl _ | (simp; done) | (simp; omega) | omega) _)))⟩
    · have hp2 : H < p := by omega
      go_wp2_with fail
      refine (HDv.out hp2 _).mono ?_
      rintro e w3 ⟨rfl, ⟨⟨m5, rfl⟩⟩⟩
      go_wp2_with fail
      by_cases hD64 : D < 18446744073709551616
      · go_quiet (first | (go_at_call 92; exact quiet_add_same (size_calls _ (by omega) (by omega) _)) | (go_at_call 114; rw [E3.out, E4.out]; exact quiet_add_same (HPf.out hD64 _)))
        go_wp2_with fail
        refine (HPut.out Z.out hp2 hD64 _).mono ?_
        rintro e w3 ⟨rfl, hw3⟩
        have B3 : Below w.heap.size w w3 := bw_then (bw_drewN B2 _) hw3
        have hR3 := blk_below (blk_drewN hR2 _) hw3
        have hR3_c0 : w3.cell? ⟨w.heap.size + 1 + 1, 0, none⟩ = some (.int .i64 0) := blk_cell hR3 0; have hR3_f0 : w3.frozen? ⟨w.heap.size + 1 + 1, 0, none⟩ = false := blk_frozen hR3 0; have hR3_c1 : w3.cell? ⟨w.heap.size + 1 + 1, 1, none⟩ = some (.int .i64 0) := blk_cell hR3 1; have hR3_f1 : w3.frozen? ⟨w.heap.size + 1 + 1, 1, none⟩ = false := blk_frozen hR3 1
        have hz3 : w.heap.size + 2 < w3.heap.size := by have := hw3.size; simp at this; omega
        go_wp2_with fail
        refine bodyPost_ret (results_ct rfl _ _ (w.heap.size + 1 + 1) 36 #[.int .i64 rn, .int .i64 rd] (0, 0) _ rfl (blk2 hR3) Try.underlying36 rfl (by kernel_rfl)) rfl ?_
        exact ⟨qe_of rfl rfl, (by repeat (first | exact Below.refl _ _ | assumption | exact Hid.out (by assumption) | (with_reducible first | refine bw_drewN ?_ _ | refine bw_alloc ?_ _ | refine bw_drew ?_) | (refine bw_set ?_ (by first | exact Nat.le_refl _ | (simp; done) | (simp; omega) | omega) _)))⟩
      · have F2 := Lib.hid (HOv.out Z.out hp2 (by omega))
        go_quiet (first | (go_at_call 92; exact quiet_add_same (size_calls _ (by omega) (by omega) _)) | (go_at_call 114; rw [E3.out, E4.out]; exact quiet_add_same (HPo.out (by omega) _)))
        go_wp2_with fail
        refine bodyPost_ret (results_ct rfl _ _ (w.heap.size + 1 + 1) 36 #[.int .i64 0, .int .i64 0] (0, 0) _ rfl (blk2 (blk_drewN hR2 _)) Try.underlying36 rfl (by kernel_rfl)) rfl ?_
        exact ⟨qe_of F2.out.symm rfl, (by repeat (first | exact Below.refl _ _ | assumption | exact Hid.out (by assumption) | (with_reducible first | refine bw_drewN ?_ _ | refine bw_alloc ?_ _ | refine bw_drew ?_) | (refine bw_set ?_ (by first | exact Nat.le_refl _ | (simp; done) | (simp; omega) | omega) _)))⟩
set_option maxHeartbeats 4000000 in
set_option maxRecDepth 100000 in
theorem Add_calls (a b : Q) (ha : a.wf) (hb : b.wf) (ra : rightB a = true) (rb : rightB b = true) (w : World) :
    Calls Try.prog 104 #[.agg #[.int .i64 a.n, .int .i64 a.d], .agg #[.int .i64 b.n, .int .i64 b.d]] w fun e w' => e = qe (addS a b) ∧ Below w.heap.size w w' := by
  have pa := rightB_pos ra
  have pb := rightB_pos rb
  have AZ := @addS_zero a b
  have AO := @addS_over a b
  have AP := @addS_put a b
  generalize addS a b = R at *
  obtain ⟨an, ad⟩ := a
  obtain ⟨bn, bd⟩ := b
  obtain ⟨⟨a0, a1⟩, a2, a3⟩ := ha
  obtain ⟨⟨b0, b1⟩, b2, b3⟩ := hb
  dsimp only at *
  obtain ⟨x, rfl⟩ := Int.eq_ofNat_of_zero_le (show 0 ≤ ad by omega)
  obtain ⟨y, rfl⟩ := Int.eq_ofNat_of_zero_le (show 0 ≤ bd by omega)
  simp only [Int.natAbs_natCast] at AZ AO AP
  have gp : 0 < Nat.gcd x y := Nat.gcd_pos_of_pos_left _ (by omega)
  have gx : Nat.gcd x y ≤ x := Nat.gcd_le_left _ (by omega)
  have gdx := Nat.gcd_dvd_left x y
  have gdy := Nat.gcd_dvd_right x y
  have HC : Hid (∀ w, Calls Try.prog 91 #[.int .u64 x, .int .u64 y] w fun e w' => e = .returned (.int .u64 (Nat.gcd x y)) ∧ Drawn w w') := Lib.hid (fun w => common_calls x y (by omega) (by omega) w)
  generalize Nat.gcd x y = g at *
  have x1p : 0 < x / g := Nat.div_pos gx gp
  have y1p : 0 < y / g := Nat.div_pos (Nat.le_of_dvd (by omega) gdy) gp
  have x1l := Nat.div_le_self x g
  have y1l := Nat.div_le_self y g
  have E1 : Hid (((x : Int) / (g : Int)) = ((x / g : Nat) : Int)) := Lib.hid (by push_cast; rfl)
  have E2 : Hid (((y : Int) / (g : Int)) = ((y / g : Nat) : Int)) := Lib.hid (by push_cast; rfl)
  have E3 : Hid (IntKind.u64.wrap ((x : Int) / (g : Int)) = ((x / g : Nat) : Int)) := Lib.hid (quo_u64 x g (by omega))
  generalize x / g = x1 at *
  generalize y / g = y1 at *
  have P0 := mul_i64 (show an.natAbs ≤ 9223372036854775808 by omega) (show y1 ≤ 9223372036854775808 by omega)
  have R0 := mul_i64 (show bn.natAbs ≤ 9223372036854775808 by omega) (show x1 ≤ 9223372036854775808 by omega)
  have SN := sumS_nonneg (m := decide (an < 0)) (n := decide (bn < 0)) P0.2 R0.2
  obtain ⟨S, hS1⟩ : ∃ S, (sumS (decide (an < 0)) (decide (bn < 0)) ((an.natAbs : Int) * (y1 : Int)) ((bn.natAbs : Int) * (x1 : Int))).1 = S := ⟨_, rfl⟩
  obtain ⟨sg, hS2⟩ : ∃ s, (sumS (decide (an < 0)) (decide (bn < 0)) ((an.natAbs : Int) * (y1 : Int)) ((bn.natAbs : Int) * (x1 : Int))).2 = s := ⟨_, rfl⟩
  have hS : sumS (decide (an < 0)) (decide (bn < 0)) ((an.natAbs : Int) * (y1 : Int)) ((bn.natAbs : Int) * (x1 : Int)) = (S, sg) := by rw [← hS1, ← hS2]
  rw [hS1] at SN
  have SB : S ≤ 170141183460469231731687303715884105728 := by
    rw [← hS1]; unfold sumS; split
    · dsimp only; omega
    · split <;> dsimp only <;> omega
  have HM : Hid (∀ w, Calls Try.prog 124 #[.int .i64 an, .int .i64 (y1 : Int), .int .i64 bn, .int .i64 (x1 : Int)] w fun e w' => e = .returned (.tuple #[.int .u64 (S / 18446744073709551616), .int .u64 (S % 18446744073709551616), .bool sg]) ∧ w' = w) :=
    Lib.hid (fun w => sum_calls an y1 bn x1 _ _ S sg ⟨a0, a1⟩ (by omega) (by omega) ⟨b0, b1⟩ (by omega) (by omega) rfl rfl (by simpa using hS) w)
  obtain ⟨H, hH⟩ : ∃ z, S / 18446744073709551616 = z := ⟨_, rfl⟩
  obtain ⟨L, hL⟩ : ∃ z, S % 18446744073709551616 = z := ⟨_, rfl⟩
  have SHL : S = H * 18446744073709551616 + L := by omega
  have h0 : 0 ≤ H := by omega
  have h1 : H ≤ 9223372036854775808 := by omega
  have l0 : 0 ≤ L := by omega
  have l1 : L < 18446744073709551616 := by omega
  rw [hH, hL] at HM
  replace AZ := AZ hS
  replace AO := AO hS
  replace AP := AP hS
  rw [hH] at AO AP
  have rl : S.natAbs % g < g := Nat.mod_lt _ gp
  have HRm : Hid (∀ w, Calls Try.prog 125 #[.int .u64 H, .int .u64 L, .int .u64 g] w fun e w' => e = .returned (.int .u64 ((S.natAbs % g : Nat) : Int)) ∧ Drawn w w') := Lib.hid (fun w => by
    have := Rem64_calls H L g h0 (by omega) (by omega) (by omega) l0 l1 w
    rw [← SHL, show S % (g : Int) = ((S.natAbs % g : Nat) : Int) by push_cast; rw [Int.natAbs_of_nonneg SN]] at this
    exact this)
  generalize S.natAbs % g = r at *
  have pp : 0 < Nat.gcd g r := Nat.gcd_pos_of_pos_left _ gp
  have pl : Nat.gcd g r ≤ g := Nat.gcd_le_left _ gp
  have pd : Nat.gcd g r ∣ y := Nat.dvd_trans (Nat.gcd_dvd_left g r) gdy
  have HC2 : Hid (∀ w, Calls Try.prog 91 #[.int .u64 g, .int .u64 r] w fun e w' => e = .returned (.int .u64 (Nat.gcd g r)) ∧ Drawn w w') := Lib.hid (fun w => common_calls g r (by omega) (by omega) w)
  generalize Nat.gcd g r = p at *
  have E4 : Hid (IntKind.u64.wrap ((y : Int) / (p : Int)) = ((y / p : Nat) : Int)) := Lib.hid (quo_u64 y p (by omega))
  have y2l := Nat.div_le_self y p
  generalize y / p = y2 at *
  have HDv : Hid (H < p → S.natAbs / p < 18446744073709551616 ∧ ∀ w, Calls Try.prog 126 #[.int .u64 H, .int .u64 L, .int .u64 p] w fun e w' => e = .returned (.tuple #[.int .u64 ((S.natAbs / p : Nat) : Int), .int .u64 (S % p)]) ∧ Drawn w w') := Lib.hid (fun hp => ⟨by
    rw [Nat.div_lt_iff_lt_mul (by omega)]
    have : (p : Int) * 18446744073709551616 ≤ p * 18446744073709551616 := Int.le_refl _
    omega, fun w => by
    have := Div64_calls H L p h0 hp (by omega) l0 l1 w
    rw [← SHL, show S / (p : Int) = ((S.natAbs / p : Nat) : Int) by push_cast; rw [Int.natAbs_of_nonneg SN]] at this
    exact this⟩)
  generalize hn : S.natAbs / p = n at *
  obtain ⟨D, hD⟩ : ∃ D, x1 * y2 = D := ⟨_, rfl⟩
  rw [hD] at AP
  obtain ⟨⟨rn, rd⟩, re⟩ := R
  have gxI : (g : Int) ≤ 9223372036854775807 := by omega
  exact Add_core an x bn y g x1 y1 H L r p n (S % p) y2 D ((D : Int) % 18446744073709551616) rn rd re sg a0 a1 pa a3 b0 b1 pb b3 (by omega) gxI (by omega) (by omega) h0 h1 l0 l1 (by omega) (by omega) (by omega) (by omega)
    (Lib.hid fun w => (Right_calls an x a0 a1 a2 a3 w).mono fun _ _ ⟨he, hw⟩ => ⟨by rw [he, ra], hw⟩) (Lib.hid fun w => (Right_calls bn y b0 b1 b2 b3 w).mono fun _ _ ⟨he, hw⟩ => ⟨by rw [he, rb], hw⟩)
    (Lib.hid fun w => by have := HC.out w; simpa using this) (Lib.hid E1.out) (Lib.hid E2.out) (Lib.hid (by have := E3.out; simpa using this)) (Lib.hid (by have := E4.out; simpa using this))
    HM HRm HC2 (Lib.hid fun hp w => (HDv.out hp).2 w)
    (Lib.hid fun hD6 w => product_fits x1 y2 D hD.symm (by omega) (by omega) (by omega) w) (Lib.hid fun hD6 w => product_over x1 y2 D hD.symm (by omega) (by omega) (by omega) _ rfl w)
    (Lib.hid fun hz hp hD6 w => qe_calls (put_calls n D sg (by have := (HDv.out hp).1; omega) (by omega) w) (AP (by omega) (by omega)).symm)
    (Lib.hid fun hz => AZ (by omega)) (Lib.hid fun hz hp => AO (by omega) hp)
    (Lib.hid fun hz hp hD6 => by rw [AP (by omega) (by omega)]; unfold putS; rw [if_neg (by omega)]) w
end Go.Proofs.Ytffpdaejemmgpaa.W
