/- This file holds the walk of rat.Mul. -/
import Derived.Test.YtffpdaejemmgpaaB
namespace Go.Proofs.Ytffpdaejemmgpaa.W
open Go.RowKit Go.Proofs.YtffpdaejemmgpaaW.PrintWords
set_option linter.unusedVariables false
set_option linter.unusedSimpArgs false
/-- rat.Mul. -/
def mulN (a b : Q) : Nat := (a.n.natAbs / Nat.gcd a.n.natAbs b.d.natAbs) * (b.n.natAbs / Nat.gcd b.n.natAbs a.d.natAbs)
def mulD (a b : Q) : Nat := (a.d.natAbs / Nat.gcd b.n.natAbs a.d.natAbs) * (b.d.natAbs / Nat.gcd a.n.natAbs b.d.natAbs)
def mulS (a b : Q) : Q × Int := if rightB a && rightB b then putS (mulN a b) (mulD a b) ((decide (a.n < 0) != decide (b.n < 0)) && mulN a b != 0) else (⟨0, 0⟩, 2)
theorem rightB_pos {a : Q} (h : rightB a = true) : 0 < a.d := by
  simp [rightB] at h; exact h.1.1
theorem gcd_le64 {a b : Nat} (ha : a < 18446744073709551616) (hb : b < 18446744073709551616) : Nat.gcd a b < 18446744073709551616 := by
  rcases Nat.eq_zero_or_pos a with h | h
  · subst h; rw [Nat.gcd_zero_left]; exact hb
  · exact Nat.lt_of_le_of_lt (Nat.gcd_le_left b h) ha
theorem quo_u64 (x g : Nat) (hx : x < 18446744073709551616) : IntKind.u64.wrap ((x : Int) / (g : Int)) = ((x / g : Nat) : Int) := by
  rw [wrap_u64, ← Int.natCast_ediv]
  have := Nat.div_le_self x g
  generalize x / g = y at *
  omega
theorem mulS_left {a b : Q} (h : rightB a = false) : ((⟨0, 0⟩, 2) : Q × Int) = mulS a b := by simp [mulS, h]
theorem mulS_right {a b : Q} (h : rightB b = false) : ((⟨0, 0⟩, 2) : Q × Int) = mulS a b := by simp [mulS, h]
theorem mulS_over {a b : Q} (ha : rightB a = true) (hb : rightB b = true) (h : ¬ (mulN a b < 18446744073709551616 ∧ mulD a b < 18446744073709551616)) : ((⟨0, 0⟩, 3) : Q × Int) = mulS a b := by
  simp only [mulS, ha, hb, Bool.and_self, if_true, putS]
  rw [if_neg (by omega)]
theorem mulS_put {a b : Q} (ha : rightB a = true) (hb : rightB b = true) : putS (mulN a b) (mulD a b) ((decide (a.n < 0) != decide (b.n < 0)) && mulN a b != 0) = mulS a b := by
  simp only [mulS, ha, hb, Bool.and_self, if_true]
set_option maxHeartbeats 2000000 in
set_option maxRecDepth 100000 in
theorem Mul_calls (a b : Q) (ha : a.wf) (hb : b.wf) (w : World) :
    Calls Try.prog 85 #[.agg #[.int .i64 a.n, .int .i64 a.d], .agg #[.int .i64 b.n, .int .i64 b.d]] w fun e w' => e = qe (mulS a b) ∧ Below w.heap.size w w' := by
  have ML := @mulS_left a b
  have MR := @mulS_right a b
  have MO := @mulS_over a b
  have MP := @mulS_put a b
  have hN : mulN a b = (a.n.natAbs / Nat.gcd a.n.natAbs b.d.natAbs) * (b.n.natAbs / Nat.gcd b.n.natAbs a.d.natAbs) := rfl
  have hD : mulD a b = (a.d.natAbs / Nat.gcd b.n.natAbs a.d.natAbs) * (b.d.natAbs / Nat.gcd a.n.natAbs b.d.natAbs) := rfl
  generalize mulN a b = N at *
  generalize mulD a b = D at *
  generalize mulS a b = R at *
  have pa := @rightB_pos a
  have pb := @rightB_pos b
  obtain ⟨an, ad⟩ := a
  obtain ⟨bn, bd⟩ := b
  obtain ⟨⟨a0, a1⟩, a2, a3⟩ := ha
  obtain ⟨⟨b0, b1⟩, b2, b3⟩ := hb
  dsimp only at *
  obtain ⟨⟨rn, rd⟩, re⟩ := R
  cases ra : rightB ⟨an, ad⟩
  · have E := Lib.hid (ML ra)
    have RA := Lib.hid ra
    clear ML MR MO MP hN hD pa pb ra
    go_enter Try.func85, Try.ntmps85
    go_wp2_with fail
    refine (Right_calls _ _ (by omega) (by omega) (by omega) (by omega) _).mono ?_; rintro e w1 ⟨rfl, hw1⟩; rw [RA.out]; obtain ⟨hc, hf⟩ := bcell hw1; have hz : w.heap.size + 2 < w1.heap.size := (by have := hw1.size; simp at this; omega)
    have hR : w1.heap[w.heap.size + 1 + 1]? = some (.cells #[.int .i64 0, .int .i64 0] 36 (0, 0)) := blk_below (blk_new' (by simp)) hw1
    go_wp2_with fail
    refine bodyPost_ret (results_ct rfl _ _ (w.heap.size + 1 + 1) 36 #[.int .i64 0, .int .i64 0] (0, 0) _ rfl (blk2 hR) Try.underlying36 rfl (by kernel_rfl)) rfl ⟨qe_of E.out rfl, bw_set (bw_set (bw_then (by repeat (first | exact Below.refl _ _ | assumption | exact Hid.out (by assumption) | (with_reducible first | refine bw_drewN ?_ _ | refine bw_alloc ?_ _ | refine bw_drew ?_) | (refine bw_set ?_ (by first | exact Nat.le_refl _ | (simp; done) | (simp; omega) | omega) _))) hw1) (by simp; try omega) _) (by simp; try omega) _⟩
  · cases rb : rightB ⟨bn, bd⟩
    · have E := Lib.hid (MR rb)
      have RA := Lib.hid ra
      have RB := Lib.hid rb
      clear ML MR MO MP hN hD pa pb ra rb
      go_enter Try.func85, Try.ntmps85
      go_wp2_with fail
      refine (Right_calls _ _ (by omega) (by omega) (by omega) (by omega) _).mono ?_; rintro e w1 ⟨rfl, hw1⟩; rw [RA.out]; obtain ⟨hc, hf⟩ := bcell hw1; have hz : w.heap.size + 2 < w1.heap.size := (by have := hw1.size; simp at this; omega)
      have hR : w1.heap[w.heap.size + 1 + 1]? = some (.cells #[.int .i64 0, .int .i64 0] 36 (0, 0)) := blk_below (blk_new' (by simp)) hw1
      go_wp2_with fail
      refine (Right_calls _ _ (by omega) (by omega) (by omega) (by omega) _).mono ?_; rintro e w2 ⟨rfl, hw2⟩; rw [RB.out]; obtain ⟨hc2, hf2⟩ := bcell hw2; have hz2 : w.heap.size + 2 < w2.heap.size := (by have := hw2.size; omega)
      have hR2 := blk_below hR hw2
      go_wp2_with fail
      refine bodyPost_ret (results_ct rfl _ _ (w.heap.size + 1 + 1) 36 #[.int .i64 0, .int .i64 0] (0, 0) _ rfl (blk2 hR2) Try.underlying36 rfl (by kernel_rfl)) rfl ⟨qe_of E.out rfl, bw_set (bw_set (bw_then (bw_then (by repeat (first | exact Below.refl _ _ | assumption | exact Hid.out (by assumption) | (with_reducible first | refine bw_drewN ?_ _ | refine bw_alloc ?_ _ | refine bw_drew ?_) | (refine bw_set ?_ (by first | exact Nat.le_refl _ | (simp; done) | (simp; omega) | omega) _))) hw1) hw2) (by simp; try omega) _) (by simp; try omega) _⟩
    · have RA := Lib.hid ra
      have RB := Lib.hid rb
      have p1 := pa ra
      have p2 := pb rb
      have E3 := Lib.hid (MO ra rb)
      have E4 := Lib.hid (MP ra rb)
      have g1 : 0 < Nat.gcd an.natAbs bd.natAbs := Nat.gcd_pos_of_pos_right _ (by omega)
      have g2 : 0 < Nat.gcd bn.natAbs ad.natAbs := Nat.gcd_pos_of_pos_right _ (by omega)
      have l1 : Nat.gcd an.natAbs bd.natAbs < 18446744073709551616 := gcd_le64 (by omega) (by omega)
      have l2 : Nat.gcd bn.natAbs ad.natAbs < 18446744073709551616 := gcd_le64 (by omega) (by omega)
      have m1 : an.natAbs / Nat.gcd an.natAbs bd.natAbs ≤ an.natAbs := Nat.div_le_self _ _
      have m2 : bn.natAbs / Nat.gcd bn.natAbs ad.natAbs ≤ bn.natAbs := Nat.div_le_self _ _
      have m3 : ad.natAbs / Nat.gcd bn.natAbs ad.natAbs ≤ ad.natAbs := Nat.div_le_self _ _
      have m4 : bd.natAbs / Nat.gcd an.natAbs bd.natAbs ≤ bd.natAbs := Nat.div_le_self _ _
      have Q1 := Lib.hid (quo_u64 an.natAbs (Nat.gcd an.natAbs bd.natAbs) (by omega))
      have Q2 := Lib.hid (quo_u64 bn.natAbs (Nat.gcd bn.natAbs ad.natAbs) (by omega))
      have Q3 := Lib.hid (quo_u64 ad.natAbs (Nat.gcd bn.natAbs ad.natAbs) (by omega))
      have Q4 := Lib.hid (quo_u64 bd.natAbs (Nat.gcd an.natAbs bd.natAbs) (by omega))
      have HN := Lib.hid hN
      have HD := Lib.hid hD
      clear ML MR MO MP hN hD pa pb ra rb
      go_enter Try.func85, Try.ntmps85
      go_wp2_with fail
      refine (Right_calls _ _ (by omega) (by omega) (by omega) (by omega) _).mono ?_; rintro e w1 ⟨rfl, hw1⟩; rw [RA.out]; obtain ⟨hc, hf⟩ := bcell hw1; have hz : w.heap.size + 2 < w1.heap.size := (by have := hw1.size; simp at this; omega)
      have hR : w1.heap[w.heap.size + 1 + 1]? = some (.cells #[.int .i64 0, .int .i64 0] 36 (0, 0)) := blk_below (blk_new' (by simp)) hw1
      go_wp2_with fail
      refine (Right_calls _ _ (by omega) (by omega) (by omega) (by omega) _).mono ?_; rintro e w2 ⟨rfl, hw2⟩; rw [RB.out]; obtain ⟨hc2, hf2⟩ := bcell hw2; have hz2 : w.heap.size + 2 < w2.heap.size := (by have := hw2.size; omega)
      have hR2 := blk_below hR hw2
      have hA : w2.heap[w.heap.size]? = some (.cells #[.int .i64 an, .int .i64 ad] 36 (0, 0)) := blk_below (blk_below (blk_alloc (blk_alloc (blk_new _ _) _) _) hw1) hw2
      have hB : w2.heap[w.heap.size + 1]? = some (.cells #[.int .i64 bn, .int .i64 bd] 36 (0, 0)) := blk_below (blk_below (blk_alloc (blk_new' (by simp)) _) hw1) hw2
      have cA0 : w2.cell? ⟨w.heap.size, 0, none⟩ = some (.int .i64 an) := blk_cell hA 0
      have cA1 : w2.cell? ⟨w.heap.size, 1, none⟩ = some (.int .i64 ad) := blk_cell hA 1
      have cB0 : w2.cell? ⟨w.heap.size + 1, 0, none⟩ = some (.int .i64 bn) := blk_cell hB 0
      have cB1 : w2.cell? ⟨w.heap.size + 1, 1, none⟩ = some (.int .i64 bd) := blk_cell hB 1
      have hR2_c0 : w2.cell? ⟨w.heap.size + 1 + 1, 0, none⟩ = some (.int .i64 0) := blk_cell hR2 0; have hR2_f0 : w2.frozen? ⟨w.heap.size + 1 + 1, 0, none⟩ = false := blk_frozen hR2 0; have hR2_c1 : w2.cell? ⟨w.heap.size + 1 + 1, 1, none⟩ = some (.int .i64 0) := blk_cell hR2 1; have hR2_f1 : w2.frozen? ⟨w.heap.size + 1 + 1, 1, none⟩ = false := blk_frozen hR2 1
      clear hc hf hc2 hf2
      go_wp2_with fail
      go_quiet ((first | (go_at_call 92; exact Calls.quiet_of_same (size_calls _ (by omega) (by omega) _)) | (go_at_call 91; exact Calls.quiet_of ((common_calls _ _ (by omega) (by omega) _).mono (fun _ _ h => ⟨h.1, h.2.out⟩))) | (go_at_call 114; exact Calls.quiet_of_same (product_calls _ _ (by omega) (by omega) _))))
      go_wp2_with fail
      obtain ⟨XN, hXN⟩ : ∃ X : Int, X = (N : Int) % 18446744073709551616 := ⟨_, rfl⟩
      obtain ⟨XD, hXD⟩ : ∃ X : Int, X = (D : Int) % 18446744073709551616 := ⟨_, rfl⟩
      have HXN := Lib.hid hXN
      have HXD := Lib.hid hXD
      clear hXN hXD
      by_cases hN64 : N < 18446744073709551616
      · go_quiet (first | (go_at_call 92; exact quiet_add_same (size_calls _ (by omega) (by omega) _)) | (go_at_call 114; rw [Q1.out, Q2.out]; exact quiet_add_same (product_fits _ _ N HN.out (by omega) (by omega) (by omega) _)))
        go_wp2_with fail
        by_cases hD64 : D < 18446744073709551616
        · go_quiet (first | (go_at_call 92; exact quiet_add_same (size_calls _ (by omega) (by omega) _)) | (go_at_call 114; rw [Q3.out, Q4.out]; exact quiet_add_same (product_fits _ _ D HD.out (by omega) (by omega) (by omega) _)))
          by_cases s1 : an < 0 <;> by_cases s2 : bn < 0 <;> cases s3 : (N != 0)
          all_goals
            have s3' : ((N : Int) != 0) = (N != 0) := by rw [Bool.eq_iff_iff]; simp
            rw [s3] at s3'
            have e5 := E4.out
            rw [s3] at e5
            simp only [s1, s2, decide_true, decide_false, bne_self_eq_false, Bool.and_true, Bool.and_false, Bool.bne_true, Bool.bne_false, Bool.not_false, Bool.not_true] at e5
            have E5 := Lib.hid e5
            clear e5 s3
            go_wp2_with fail
            (with_reducible refine (qe_calls (a := rn) (b := rd) (c := re) (put_calls N D _ (by omega) (by omega) _) ?_).mono ?_)
            · exact E5.out
            rintro e w3 ⟨rfl, hw3⟩
            have hR3 := blk_below (blk_drewN hR2 _) hw3
            have hR3_c0 : w3.cell? ⟨w.heap.size + 1 + 1, 0, none⟩ = some (.int .i64 0) := blk_cell hR3 0; have hR3_f0 : w3.frozen? ⟨w.heap.size + 1 + 1, 0, none⟩ = false := blk_frozen hR3 0; have hR3_c1 : w3.cell? ⟨w.heap.size + 1 + 1, 1, none⟩ = some (.int .i64 0) := blk_cell hR3 1; have hR3_f1 : w3.frozen? ⟨w.heap.size + 1 + 1, 1, none⟩ = false := blk_frozen hR3 1
            have hz3 : w.heap.size + 2 < w3.heap.size := by have := hw3.size; simp at this; omega
            go_wp2_with fail
            have B3 : Below w.heap.size w w3 := bw_then (bw_drewN (bw_then (bw_then (by repeat (first | exact Below.refl _ _ | assumption | exact Hid.out (by assumption) | (with_reducible first | refine bw_drewN ?_ _ | refine bw_alloc ?_ _ | refine bw_drew ?_) | (refine bw_set ?_ (by first | exact Nat.le_refl _ | (simp; done) | (simp; omega) | omega) _))) hw1) hw2) _) hw3
            refine bodyPost_ret (results_ct rfl _ _ (w.heap.size + 1 + 1) 36 #[.int .i64 rn, .int .i64 rd] (0, 0) _ rfl (blk2 hR3) Try.underlying36 rfl (by kernel_rfl)) rfl ?_
            exact ⟨qe_of rfl rfl, (by repeat (first | exact Below.refl _ _ | assumption | exact Hid.out (by assumption) | (with_reducible first | refine bw_drewN ?_ _ | refine bw_alloc ?_ _ | refine bw_drew ?_) | (refine bw_set ?_ (by first | exact Nat.le_refl _ | (simp; done) | (simp; omega) | omega) _)))⟩
        · go_quiet (first | (go_at_call 92; exact quiet_add_same (size_calls _ (by omega) (by omega) _)) | (go_at_call 114; rw [Q3.out, Q4.out]; exact quiet_add_same (product_over _ _ D HD.out (by omega) (by omega) (by omega) XD HXD.out _)))
          go_wp2_with fail
          refine bodyPost_ret (results_ct rfl _ _ (w.heap.size + 1 + 1) 36 #[.int .i64 0, .int .i64 0] (0, 0) _ rfl (blk2 (blk_drewN hR2 _)) Try.underlying36 rfl (by kernel_rfl)) rfl ⟨qe_of (E3.out (by omega)) rfl, bw_set (bw_set (bw_drewN (bw_then (bw_then (by repeat (first | exact Below.refl _ _ | assumption | exact Hid.out (by assumption) | (with_reducible first | refine bw_drewN ?_ _ | refine bw_alloc ?_ _ | refine bw_drew ?_) | (refine bw_set ?_ (by first | exact Nat.le_refl _ | (simp; done) | (simp; omega) | omega) _))) hw1) hw2) _) (by simp; try omega) _) (by simp; try omega) _⟩
      · go_quiet (first | (go_at_call 92; exact quiet_add_same (size_calls _ (by omega) (by omega) _)) | (go_at_call 114; rw [Q1.out, Q2.out]; exact quiet_add_same (product_over _ _ N HN.out (by omega) (by omega) (by omega) XN HXN.out _)))
        go_wp2_with fail
        by_cases hD64 : D < 18446744073709551616
        · go_quiet (first | (go_at_call 92; exact quiet_add_same (size_calls _ (by omega) (by omega) _)) | (go_at_call 114; rw [Q3.out, Q4.out]; exact quiet_add_same (product_fits _ _ D HD.out (by omega) (by omega) (by omega) _)))
          go_wp2_with fail
          refine bodyPost_ret (results_ct rfl _ _ (w.heap.size + 1 + 1) 36 #[.int .i64 0, .int .i64 0] (0, 0) _ rfl (blk2 (blk_drewN hR2 _)) Try.underlying36 rfl (by kernel_rfl)) rfl ⟨qe_of (E3.out (by omega)) rfl, bw_set (bw_set (bw_drewN (bw_then (bw_then (by repeat (first | exact Below.refl _ _ | assumption | exact Hid.out (by assumption) | (with_reducible first | refine bw_drewN ?_ _ | refine bw_alloc ?_ _ | refine bw_drew ?_) | (refine bw_set ?_ (by first | exact Nat.le_refl _ | (simp; done) | (simp; omega) | omega) _))) hw1) hw2) _) (by simp; try omega) _) (by simp; try omega) _⟩
        · go_quiet (first | (go_at_call 92; exact quiet_add_same (size_calls _ (by omega) (by omega) _)) | (go_at_call 114; rw [Q3.out, Q4.out]; exact quiet_add_same (product_over _ _ D HD.out (by omega) (by omega) (by omega) XD HXD.out _)))
          go_wp2_with fail
          refine bodyPost_ret (results_ct rfl _ _ (w.heap.size + 1 + 1) 36 #[.int .i64 0, .int .i64 0] (0, 0) _ rfl (blk2 (blk_drewN hR2 _)) Try.underlying36 rfl (by kernel_rfl)) rfl ⟨qe_of (E3.out (by omega)) rfl, bw_set (bw_set (bw_drewN (bw_then (bw_then (by repeat (first | exact Below.refl _ _ | assumption | exact Hid.out (by assumption) | (with_reducible first | refine bw_drewN ?_ _ | refine bw_alloc ?_ _ | refine bw_drew ?_) | (refine bw_set ?_ (by first | exact Nat.le_refl _ | (simp; done) | (simp; omega) | omega) _))) hw1) hw2) _) (by simp; try omega) _) (by simp; try omega) _⟩
end Go.Proofs.Ytffpdaejemmgpaa.W
