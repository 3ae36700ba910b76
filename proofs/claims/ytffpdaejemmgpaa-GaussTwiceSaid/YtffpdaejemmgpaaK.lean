/- This file holds the walks of term.Right, term.At and term.one. -/
import Derived.Test.YtffpdaejemmgpaaJ
import Derived.Test.YtffpdaejemmgpaaWShare
namespace Go.Proofs.Ytffpdaejemmgpaa.W
open Go.RowKit Go.Proofs.YtffpdaejemmgpaaW.PrintWords
set_option linter.unusedVariables false
set_option linter.unusedSimpArgs false
/-- A term: the variables' fractions, and the constant. -/
structure T where
  c : List Q
  k : Q
def T.wf (t : T) : Prop := (∀ q ∈ t.c, q.wf) ∧ t.k.wf
def rightT (t : T) : Bool := decide (t.c.length ≤ 8) && rightB t.k && !(t.c.any fun q => !rightB q)
set_option maxHeartbeats 2000000 in
theorem TRight_calls (t : T) (A : Option Addr) (cap : Nat) (hw : t.wf) (w : World) (hr : Kd.C kQ w A t.c.length t.c) :
    Calls Try.prog 35 #[.agg #[.slice A t.c.length cap, .int .i64 t.k.n, .int .i64 t.k.d]] w fun e w' => e = .returned (.bool (rightT t)) ∧ Below w.heap.size w w' := by
  obtain ⟨l, kn, kd⟩ := t
  obtain ⟨hl, ⟨k0, k1⟩, k2, k3⟩ := hw
  dsimp only at *
  have hm := hr.2.1
  have HC := Lib.hid (fun W hb => ContainsRat_calls A cap l hl W (Kd.C_below (w1 := W) hr hb))
  have e1 : ∀ b, l.length ≤ 8 → rightB ⟨kn, kd⟩ = b → rightT ⟨l, kn, kd⟩ = (b && !(l.any fun q => !rightB q)) := fun b h1 h2 => by simp [rightT, h1, h2]
  have e2 : ¬ l.length ≤ 8 → rightT ⟨l, kn, kd⟩ = false := fun h1 => by simp [rightT, h1]
  generalize rightT ⟨l, kn, kd⟩ = R at *
  generalize (l.any fun q => !rightB q) = y at *
  generalize l.length = n at *
  clear hr hl
  by_cases h8 : n ≤ 8
  · cases hk : rightB ⟨kn, kd⟩
    · have E := Lib.hid (e1 _ h8 hk)
      have HK := Lib.hid hk
      clear e1 e2 hk
      go_enter Try.func35, Try.ntmps35
      go_wp2_with fail
      refine (Right_calls kn kd k0 k1 k2 k3 _).mono ?_
      rintro e w1 ⟨rfl, hw1⟩
      rw [HK.out]
      have B1 : Below w.heap.size w w1 := bw_then (by repeat (first | exact Below.refl _ _ | assumption | exact Hid.out (by assumption) | (with_reducible first | refine bw_drewN ?_ _ | refine bw_alloc ?_ _ | refine bw_drew ?_) | (refine bw_set ?_ (by first | exact Nat.le_refl _ | (simp; done) | (simp; omega) | omega) _))) hw1
      go_wp2_with fail
      go_ret
      exact ⟨ret_bool (by rw [E.out]; rfl), B1⟩
    · have E := Lib.hid (e1 _ h8 hk)
      have HK := Lib.hid hk
      clear e1 e2 hk
      go_enter Try.func35, Try.ntmps35
      go_wp2_with fail
      refine (Right_calls kn kd k0 k1 k2 k3 _).mono ?_
      rintro e w1 ⟨rfl, hw1⟩
      rw [HK.out]
      have B1 : Below w.heap.size w w1 := bw_then (by repeat (first | exact Below.refl _ _ | assumption | exact Hid.out (by assumption) | (with_reducible first | refine bw_drewN ?_ _ | refine bw_alloc ?_ _ | refine bw_drew ?_) | (refine bw_set ?_ (by first | exact Nat.le_refl _ | (simp; done) | (simp; omega) | omega) _))) hw1
      have hA1 : w1.heap[w.heap.size]? = some (.cells #[.slice A n cap, .int .i64 kn, .int .i64 kd] 39 (0, 0)) := blk_below (blk_new _ _) hw1
      have hA1_c0 : w1.cell? ⟨w.heap.size, 0, none⟩ = some (.slice A n cap) := blk_cell hA1 0; have hA1_f0 : w1.frozen? ⟨w.heap.size, 0, none⟩ = false := blk_frozen hA1 0; have hA1_c1 : w1.cell? ⟨w.heap.size, 1, none⟩ = some (.int .i64 kn) := blk_cell hA1 1; have hA1_f1 : w1.frozen? ⟨w.heap.size, 1, none⟩ = false := blk_frozen hA1 1; have hA1_c2 : w1.cell? ⟨w.heap.size, 2, none⟩ = some (.int .i64 kd) := blk_cell hA1 2; have hA1_f2 : w1.frozen? ⟨w.heap.size, 2, none⟩ = false := blk_frozen hA1 2
      go_wp2_with fail
      refine (HC.out _ B1).mono ?_
      rintro e w2 ⟨rfl, hw2⟩
      have B2 : Below w.heap.size w w2 := bw_then B1 hw2
      go_wp2_with fail
      go_ret
      exact ⟨ret_bool (by rw [E.out]; rfl), B2⟩
  · have E := Lib.hid (e2 h8)
    clear e1 e2
    go_enter Try.func35, Try.ntmps35
    go_wp2_with fail
    go_ret
    exact ⟨ret_bool E.out.symm, (by repeat (first | exact Below.refl _ _ | assumption | exact Hid.out (by assumption) | (with_reducible first | refine bw_drewN ?_ _ | refine bw_alloc ?_ _ | refine bw_drew ?_) | (refine bw_set ?_ (by first | exact Nat.le_refl _ | (simp; done) | (simp; omega) | omega) _)))⟩
set_option maxHeartbeats 1000000 in
theorem nought_calls (w : World) : Calls Try.prog 60 #[] w fun e w' => e = .returned (.agg #[.int .i64 0, .int .i64 1]) ∧ Below w.heap.size w w' := by
  go_enter Try.func60, Try.ntmps60
  go_wp2
  refine bodyPost_ret (results_cell_row rfl _ _ w.heap.size 36 #[.int .i64 0, .int .i64 1] (0, 0) _ rfl (blk_new _ _) Try.underlying36 rfl (by kernel_rfl)) rfl ?_
  exact ⟨rfl, (by repeat (first | exact Below.refl _ _ | assumption | exact Hid.out (by assumption) | (with_reducible first | refine bw_drewN ?_ _ | refine bw_alloc ?_ _ | refine bw_drew ?_) | (refine bw_set ?_ (by first | exact Nat.le_refl _ | (simp; done) | (simp; omega) | omega) _)))⟩
/-- A variable's fraction. -/
def atT (t : T) (i : Int) : Q := if i < 0 then ⟨0, 1⟩ else t.c.getD i.toNat ⟨0, 1⟩
theorem q_of {a b c d : Int} (h : (⟨a, b⟩ : Q) = ⟨c, d⟩) : Ending.returned (.agg #[.int .i64 a, .int .i64 b]) = .returned (.agg #[.int .i64 c, .int .i64 d]) := by cases h; rfl
theorem blk1new {w w1 : World} {x y : Value} {g : Nat} (h : w1.heap[g]? = some (.cells #[x, y] 36 (0, 0))) (a b : Value) : ((w1.setCell ⟨g, 0, none⟩ a).setCell ⟨g, 1, none⟩ b).heap[g]? = some (.cells #[a, b] 36 (0, 0)) := blk2 h
set_option maxHeartbeats 2000000 in
theorem At_calls (t : T) (A : Option Addr) (cap : Nat) (i : Int) (w : World) (hr : Kd.C kQ w A t.c.length t.c) :
    Calls Try.prog 64 #[.agg #[.slice A t.c.length cap, .int .i64 t.k.n, .int .i64 t.k.d], .int .i64 i] w fun e w' => e = .returned (.agg #[.int .i64 (atT t i).n, .int .i64 (atT t i).d]) ∧ Below w.heap.size w w' := by
  obtain ⟨l, kn, kd⟩ := t
  dsimp only at *
  have hm := hr.2.1
  have e1 : i < 0 → atT ⟨l, kn, kd⟩ i = ⟨0, 1⟩ := fun h => by unfold atT; rw [if_pos h]
  have e2 : (l.length : Int) ≤ i → atT ⟨l, kn, kd⟩ i = ⟨0, 1⟩ := fun h => by
    unfold atT; rw [if_neg (by omega), List.getD_eq_getElem?_getD, List.getElem?_eq_none (by dsimp only; omega)]; rfl
  have e3 : ¬ i < 0 → ¬ (l.length : Int) ≤ i → atT ⟨l, kn, kd⟩ i = l.getD i.toNat zQ := fun h h2 => by
    unfold atT; rw [if_neg h, List.getD_eq_getElem?_getD, List.getD_eq_getElem?_getD, List.getElem?_eq_getElem (by dsimp only; omega)]; rfl
  have HK : Hid (∀ W, Below w.heap.size w W → ∀ i : Nat, i < l.length → ∃ ad, A = some ad ∧ W.cell? (ad.add (i * 2)) = some (.int .i64 (l.getD i zQ).n) ∧ W.cell? ⟨(ad.add (i * 2)).block, (ad.add (i * 2)).off + 1, none⟩ = some (.int .i64 (l.getD i zQ).d)) := Lib.hid fun W hb i hi => kQ_at (Kd.C_below hr hb) i hi
  clear hr
  generalize atT ⟨l, kn, kd⟩ i = q at *
  generalize hn : l.length = n at *
  obtain ⟨qn, qd⟩ := q
  by_cases c1 : i < 0
  · have E := Lib.hid (e1 c1)
    clear e1 e2 e3
    go_enter Try.func64, Try.ntmps64
    go_wp2_with fail
    refine (nought_calls _).mono ?_
    rintro e w1 ⟨rfl, hw1⟩
    have B1 : Below w.heap.size w w1 := bw_then (by repeat (first | exact Below.refl _ _ | assumption | exact Hid.out (by assumption) | (with_reducible first | refine bw_drewN ?_ _ | refine bw_alloc ?_ _ | refine bw_drew ?_) | (refine bw_set ?_ (by first | exact Nat.le_refl _ | (simp; done) | (simp; omega) | omega) _))) hw1
    have hR1 : w1.heap[w.heap.size + 1]? = some (.cells #[.int .i64 0, .int .i64 0] 36 (0, 0)) := blk_below (blk_new' (by simp)) hw1
    have hR1_c0 : w1.cell? ⟨w.heap.size + 1, 0, none⟩ = some (.int .i64 0) := blk_cell hR1 0; have hR1_f0 : w1.frozen? ⟨w.heap.size + 1, 0, none⟩ = false := blk_frozen hR1 0; have hR1_c1 : w1.cell? ⟨w.heap.size + 1, 1, none⟩ = some (.int .i64 0) := blk_cell hR1 1; have hR1_f1 : w1.frozen? ⟨w.heap.size + 1, 1, none⟩ = false := blk_frozen hR1 1
    go_wp2_with fail
    refine bodyPost_ret (results_cell_row rfl _ _ (w.heap.size + 1) 36 #[.int .i64 0, .int .i64 1] (0, 0) _ rfl (blk2 hR1) Try.underlying36 rfl (by kernel_rfl)) rfl ?_
    exact ⟨q_of E.out.symm, (by repeat (first | exact Below.refl _ _ | assumption | exact Hid.out (by assumption) | (with_reducible first | refine bw_drewN ?_ _ | refine bw_alloc ?_ _ | refine bw_drew ?_) | (refine bw_set ?_ (by first | exact Nat.le_refl _ | (simp; done) | (simp; omega) | omega) _)))⟩
  · by_cases c2 : (n : Int) ≤ i
    · have E := Lib.hid (e2 c2)
      clear e1 e2 e3
      go_enter Try.func64, Try.ntmps64
      go_wp2_with fail
      refine (nought_calls _).mono ?_
      rintro e w1 ⟨rfl, hw1⟩
      have B1 : Below w.heap.size w w1 := bw_then (by repeat (first | exact Below.refl _ _ | assumption | exact Hid.out (by assumption) | (with_reducible first | refine bw_drewN ?_ _ | refine bw_alloc ?_ _ | refine bw_drew ?_) | (refine bw_set ?_ (by first | exact Nat.le_refl _ | (simp; done) | (simp; omega) | omega) _))) hw1
      have hR1 : w1.heap[w.heap.size + 1]? = some (.cells #[.int .i64 0, .int .i64 0] 36 (0, 0)) := blk_below (blk_new' (by simp)) hw1
      have hR1_c0 : w1.cell? ⟨w.heap.size + 1, 0, none⟩ = some (.int .i64 0) := blk_cell hR1 0; have hR1_f0 : w1.frozen? ⟨w.heap.size + 1, 0, none⟩ = false := blk_frozen hR1 0; have hR1_c1 : w1.cell? ⟨w.heap.size + 1, 1, none⟩ = some (.int .i64 0) := blk_cell hR1 1; have hR1_f1 : w1.frozen? ⟨w.heap.size + 1, 1, none⟩ = false := blk_frozen hR1 1
      go_wp2_with fail
      refine bodyPost_ret (results_cell_row rfl _ _ (w.heap.size + 1) 36 #[.int .i64 0, .int .i64 1] (0, 0) _ rfl (blk2 hR1) Try.underlying36 rfl (by kernel_rfl)) rfl ?_
      exact ⟨q_of E.out.symm, (by repeat (first | exact Below.refl _ _ | assumption | exact Hid.out (by assumption) | (with_reducible first | refine bw_drewN ?_ _ | refine bw_alloc ?_ _ | refine bw_drew ?_) | (refine bw_set ?_ (by first | exact Nat.le_refl _ | (simp; done) | (simp; omega) | omega) _)))⟩
    · obtain ⟨j, rfl⟩ := Int.eq_ofNat_of_zero_le (show 0 ≤ i by omega)
      have E := Lib.hid (e3 c1 c2)
      have hj : j < n := by omega
      obtain ⟨ad, rfl, c0, c3⟩ := HK.out ((w.alloc (.cells #[.slice A n cap, .int .i64 kn, .int .i64 kd] 39)).alloc (.cells #[.int .i64 0, .int .i64 0] 36)) (by repeat (first | exact Below.refl _ _ | assumption | exact Hid.out (by assumption) | (with_reducible first | refine bw_drewN ?_ _ | refine bw_alloc ?_ _ | refine bw_drew ?_) | (refine bw_set ?_ (by first | exact Nat.le_refl _ | (simp; done) | (simp; omega) | omega) _))) j (by omega)
      rw [Int.toNat_natCast] at E
      rw [← E.out] at c0 c3
      clear e1 e2 e3
      go_enter Try.func64, Try.ntmps64
      go_wp2_with fail
      refine bodyPost_ret (results_cell_row rfl _ _ (w.heap.size + 1) 36 #[.int .i64 qn, .int .i64 qd] (0, 0) _ rfl (blk_new' (by simp)) Try.underlying36 rfl (by kernel_rfl)) rfl ?_
      exact ⟨rfl, (by repeat (first | exact Below.refl _ _ | assumption | exact Hid.out (by assumption) | (with_reducible first | refine bw_drewN ?_ _ | refine bw_alloc ?_ _ | refine bw_drew ?_) | (refine bw_set ?_ (by first | exact Nat.le_refl _ | (simp; done) | (simp; omega) | omega) _)))⟩
set_option maxHeartbeats 2000000 in
theorem one_calls (t : T) (A : Option Addr) (cap : Nat) (i : Int) (w : World) (hr : Kd.C kQ w A t.c.length t.c) :
    Calls Try.prog 86 #[.agg #[.slice A t.c.length cap, .int .i64 t.k.n, .int .i64 t.k.d], .int .i64 i] w fun e w' => e = .returned (.agg #[.int .i64 (if i < 0 then t.k else atT t i).n, .int .i64 (if i < 0 then t.k else atT t i).d]) ∧ Below w.heap.size w w' := by
  by_cases c1 : i < 0
  · rw [if_pos c1]
    obtain ⟨l, kn, kd⟩ := t
    dsimp only at *
    clear hr
    generalize l.length = n
    go_enter Try.func86, Try.ntmps86
    go_wp2_with fail
    refine bodyPost_ret (results_cell_row rfl _ _ (w.heap.size + 1) 36 #[.int .i64 kn, .int .i64 kd] (0, 0) _ rfl (blk_new' (by simp)) Try.underlying36 rfl (by kernel_rfl)) rfl ?_
    exact ⟨rfl, (by repeat (first | exact Below.refl _ _ | assumption | exact Hid.out (by assumption) | (with_reducible first | refine bw_drewN ?_ _ | refine bw_alloc ?_ _ | refine bw_drew ?_) | (refine bw_set ?_ (by first | exact Nat.le_refl _ | (simp; done) | (simp; omega) | omega) _)))⟩
  · rw [if_neg c1]
    have HA := Lib.hid fun W hb => At_calls t A cap i W (Kd.C_below hr hb)
    generalize atT t i = q at *
    obtain ⟨qn, qd⟩ := q
    obtain ⟨l, kn, kd⟩ := t
    dsimp only at *
    clear hr
    generalize l.length = n at *
    go_enter Try.func86, Try.ntmps86
    go_wp2_with fail
    refine (HA.out _ (by repeat (first | exact Below.refl _ _ | assumption | exact Hid.out (by assumption) | (with_reducible first | refine bw_drewN ?_ _ | refine bw_alloc ?_ _ | refine bw_drew ?_) | (refine bw_set ?_ (by first | exact Nat.le_refl _ | (simp; done) | (simp; omega) | omega) _)))).mono ?_
    rintro e w1 ⟨rfl, hw1⟩
    have B1 : Below w.heap.size w w1 := bw_then (by repeat (first | exact Below.refl _ _ | assumption | exact Hid.out (by assumption) | (with_reducible first | refine bw_drewN ?_ _ | refine bw_alloc ?_ _ | refine bw_drew ?_) | (refine bw_set ?_ (by first | exact Nat.le_refl _ | (simp; done) | (simp; omega) | omega) _))) hw1
    have hR1 : w1.heap[w.heap.size + 1]? = some (.cells #[.int .i64 0, .int .i64 0] 36 (0, 0)) := blk_below (blk_new' (by simp)) hw1
    have hR1_c0 : w1.cell? ⟨w.heap.size + 1, 0, none⟩ = some (.int .i64 0) := blk_cell hR1 0; have hR1_f0 : w1.frozen? ⟨w.heap.size + 1, 0, none⟩ = false := blk_frozen hR1 0; have hR1_c1 : w1.cell? ⟨w.heap.size + 1, 1, none⟩ = some (.int .i64 0) := blk_cell hR1 1; have hR1_f1 : w1.frozen? ⟨w.heap.size + 1, 1, none⟩ = false := blk_frozen hR1 1
    go_wp2_with fail
    refine bodyPost_ret (results_cell_row rfl _ _ (w.heap.size + 1) 36 #[.int .i64 qn, .int .i64 qd] (0, 0) _ rfl (blk2 hR1) Try.underlying36 rfl (by kernel_rfl)) rfl ?_
    exact ⟨rfl, (by repeat (first | exact Below.refl _ _ | assumption | exact Hid.out (by assumption) | (with_reducible first | refine bw_drewN ?_ _ | refine bw_alloc ?_ _ | refine bw_drew ?_) | (refine bw_set ?_ (by first | exact Nat.le_refl _ | (simp; done) | (simp; omega) | omega) _)))⟩
end Go.Proofs.Ytffpdaejemmgpaa.W
