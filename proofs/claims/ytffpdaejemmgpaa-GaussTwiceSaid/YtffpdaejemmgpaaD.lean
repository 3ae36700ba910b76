/- This file holds the walk of rat.Div of 1 by a fraction. -/
import Derived.Test.YtffpdaejemmgpaaC
namespace Go.Proofs.Ytffpdaejemmgpaa.W
open Go.RowKit Go.Proofs.YtffpdaejemmgpaaW.PrintWords
set_option linter.unusedVariables false
set_option linter.unusedSimpArgs false
/-- A fraction turned over (of a fraction that isn't 0). -/
def flip (b : Q) : Q := if b.n < 0 then ⟨-b.d, -b.n⟩ else ⟨b.d, b.n⟩
theorem flip_neg {n d : Int} (h : n < 0) : (⟨-d, -n⟩ : Q) = flip ⟨n, d⟩ := by simp [flip, h]
theorem flip_pos {n d : Int} (h : ¬ n < 0) : (⟨d, n⟩ : Q) = flip ⟨n, d⟩ := by simp [flip, h]
theorem rightB_n {a : Q} (h : rightB a = true) : a.n ≠ -9223372036854775808 := by
  simp [rightB] at h; exact h.1.2
set_option maxHeartbeats 2000000 in
set_option maxRecDepth 100000 in
/-- 1 by a right fraction that isn't 0. -/
theorem Div_calls (b : Q) (hb : b.wf) (rb : rightB b = true) (h0 : b.n ≠ 0) (w : World) :
    Calls Try.prog 95 #[.agg #[.int .i64 1, .int .i64 1], .agg #[.int .i64 b.n, .int .i64 b.d]] w fun e w' => e = qe (mulS ⟨1, 1⟩ (flip b)) ∧ Below w.heap.size w w' := by
  have p1 := rightB_pos rb
  have p2 := rightB_n rb
  have FN := @flip_neg b.n b.d
  have FP := @flip_pos b.n b.d
  obtain ⟨bn, bd⟩ := b
  obtain ⟨⟨b0, b1⟩, b2, b3⟩ := hb
  dsimp only at *
  have HF : ∃ f, flip ⟨bn, bd⟩ = f := ⟨_, rfl⟩
  obtain ⟨f, hf0⟩ := HF
  rw [hf0] at FN FP ⊢
  have ra : rightB ⟨1, 1⟩ = true := by decide
  have RA := Lib.hid ra
  have RB := Lib.hid rb
  have hz0 : (bn == 0) = false := by simpa using h0
  clear ra rb hf0 h0
  generalize hR : mulS ⟨1, 1⟩ f = R
  obtain ⟨⟨rn, rd⟩, re⟩ := R
  have HR := Lib.hid hR
  clear hR
  by_cases s : bn < 0
  all_goals
    first
      | (have F := Lib.hid (FN s))
      | (have F := Lib.hid (FP s))
    clear FN FP
    go_enter Try.func95, Try.ntmps95
    go_wp2_with fail
    refine (Right_calls _ _ (by omega) (by omega) (by omega) (by omega) _).mono ?_
    rintro e w1 ⟨rfl, hw1⟩
    rw [RA.out]
    have B1 : Below w.heap.size w w1 := bw_then (by repeat (first | exact Below.refl _ _ | assumption | exact Hid.out (by assumption) | (with_reducible first | refine bw_drewN ?_ _ | refine bw_alloc ?_ _ | refine bw_drew ?_) | (refine bw_set ?_ (by first | exact Nat.le_refl _ | (simp; done) | (simp; omega) | omega) _))) hw1
    have hR1 : w1.heap[w.heap.size + 1 + 1]? = some (.cells #[.int .i64 0, .int .i64 0] 36 (0, 0)) := blk_below (blk_new' (by simp)) hw1
    have hA1 : w1.heap[w.heap.size]? = some (.cells #[.int .i64 1, .int .i64 1] 36 (0, 0)) := blk_below (blk_alloc (blk_alloc (blk_new _ _) _) _) hw1
    have hB1 : w1.heap[w.heap.size + 1]? = some (.cells #[.int .i64 bn, .int .i64 bd] 36 (0, 0)) := blk_below (blk_alloc (blk_new' (by simp)) _) hw1
    have hB1_c0 : w1.cell? ⟨w.heap.size + 1, 0, none⟩ = some (.int .i64 bn) := blk_cell hB1 0; have hB1_f0 : w1.frozen? ⟨w.heap.size + 1, 0, none⟩ = false := blk_frozen hB1 0; have hB1_c1 : w1.cell? ⟨w.heap.size + 1, 1, none⟩ = some (.int .i64 bd) := blk_cell hB1 1; have hB1_f1 : w1.frozen? ⟨w.heap.size + 1, 1, none⟩ = false := blk_frozen hB1 1
    have hz1 : w.heap.size + 2 < w1.heap.size := by have := hw1.size; simp at this; omega
    go_wp2_with fail
    refine (Right_calls _ _ (by omega) (by omega) (by omega) (by omega) _).mono ?_
    rintro e w2 ⟨rfl, hw2⟩
    rw [RB.out]
    have B2 : Below w.heap.size w w2 := bw_then B1 hw2
    have hR2 := blk_below hR1 hw2
    have hA2 := blk_below hA1 hw2
    have hB2 := blk_below hB1 hw2
    have hB2_c0 : w2.cell? ⟨w.heap.size + 1, 0, none⟩ = some (.int .i64 bn) := blk_cell hB2 0; have hB2_f0 : w2.frozen? ⟨w.heap.size + 1, 0, none⟩ = false := blk_frozen hB2 0; have hB2_c1 : w2.cell? ⟨w.heap.size + 1, 1, none⟩ = some (.int .i64 bd) := blk_cell hB2 1; have hB2_f1 : w2.frozen? ⟨w.heap.size + 1, 1, none⟩ = false := blk_frozen hB2 1
    have hA2_c0 : w2.cell? ⟨w.heap.size, 0, none⟩ = some (.int .i64 1) := blk_cell hA2 0; have hA2_f0 : w2.frozen? ⟨w.heap.size, 0, none⟩ = false := blk_frozen hA2 0; have hA2_c1 : w2.cell? ⟨w.heap.size, 1, none⟩ = some (.int .i64 1) := blk_cell hA2 1; have hA2_f1 : w2.frozen? ⟨w.heap.size, 1, none⟩ = false := blk_frozen hA2 1
    have hz2 : w.heap.size + 2 < w2.heap.size := by have := hw2.size; omega
    clear hB1_c0 hB1_f0 hB1_c1 hB1_f1
    go_wp2_with fail
    (with_reducible refine (qe_calls (a := rn) (b := rd) (c := re) (Mul_calls ⟨1, 1⟩ ⟨_, _⟩ (wf_mk (by decide) (by decide) (by decide) (by decide)) (wf_mk (by omega) (by omega) (by omega) (by omega)) _) (by rw [F.out]; exact HR.out)).mono ?_)
    rintro e w3 ⟨rfl, hw3⟩
    have B3 : Below w.heap.size w w3 := bw_then B2 hw3
    have hR3 := blk_below hR2 hw3
    have hR3_c0 : w3.cell? ⟨w.heap.size + 1 + 1, 0, none⟩ = some (.int .i64 0) := blk_cell hR3 0; have hR3_f0 : w3.frozen? ⟨w.heap.size + 1 + 1, 0, none⟩ = false := blk_frozen hR3 0; have hR3_c1 : w3.cell? ⟨w.heap.size + 1 + 1, 1, none⟩ = some (.int .i64 0) := blk_cell hR3 1; have hR3_f1 : w3.frozen? ⟨w.heap.size + 1 + 1, 1, none⟩ = false := blk_frozen hR3 1
    have hz3 : w.heap.size + 2 < w3.heap.size := by have := hw3.size; omega
    go_wp2_with fail
    refine bodyPost_ret (results_ct rfl _ _ (w.heap.size + 1 + 1) 36 #[.int .i64 rn, .int .i64 rd] (0, 0) _ rfl (blk2 hR3) Try.underlying36 rfl (by kernel_rfl)) rfl ?_
    exact ⟨qe_of rfl rfl, (by repeat (first | exact Below.refl _ _ | assumption | exact Hid.out (by assumption) | (with_reducible first | refine bw_drewN ?_ _ | refine bw_alloc ?_ _ | refine bw_drew ?_) | (refine bw_set ?_ (by first | exact Nat.le_refl _ | (simp; done) | (simp; omega) | omega) _)))⟩
end Go.Proofs.Ytffpdaejemmgpaa.W
