/- This file holds the walk of term.Own. -/
import Derived.Test.YtffpdaejemmgpaaP
namespace Go.Proofs.Ytffpdaejemmgpaa.W
open Go.RowKit Go.Proofs.YtffpdaejemmgpaaW.PrintWords Go.Proofs.YtffpdaejemmgpaaW.PrintMore
set_option linter.unusedVariables false
set_option linter.unusedSimpArgs false
def ownS (t : T) : T := if rightT t then ⟨trimS t.c, t.k⟩ else ⟨[], ⟨0, 1⟩⟩
/-- A term in new memory is handed back. -/
def Ret1 (w w' : World) (e : Ending) (r : T) : Prop := ∃ (A : Option Addr) (c m : Nat), e = .returned (.agg #[.slice A m c, .int .i64 r.k.n, .int .i64 r.k.d]) ∧ r.c.length = m ∧ m ≤ c ∧ Kd.F kQ w' (fun k => w.heap.size ≤ k) A m r.c
set_option maxHeartbeats 4000000 in
theorem Own_calls (t : T) (A : Option Addr) (cap n : Nat) (hn : t.c.length = n) (hcap : n ≤ cap) (hw : t.wf) (w : World) (hr : Kd.C kQ w A n t.c) :
    Calls Try.prog 36 #[.agg #[.slice A n cap, .int .i64 t.k.n, .int .i64 t.k.d]] w fun e w' => Ret1 w w' e (ownS t) ∧ Below w.heap.size w w' := by
  have HT := Lib.hid fun W hb => TRight_calls' t A cap n hn hw W (Kd.C_below (w1 := W) hr hb)
  have h8 : rightT t = true → n ≤ 8 := fun h => by simp only [rightT, Bool.and_eq_true, decide_eq_true_eq] at h; omega
  have HS : Hid (n ≤ 8 → ∀ W, Below w.heap.size w W → _) := Lib.hid fun h8 W hb => trim_calls' t A cap n hn (by omega) hcap W (by have h := Kd.C_below (w1 := W) hr hb; rw [← hn] at h; exact h)
  have e0 : rightT t = false → ownS t = ⟨[], ⟨0, 1⟩⟩ := fun h => by simp [ownS, h]
  have e2 : rightT t = true → ownS t = ⟨trimS t.c, t.k⟩ := fun h => by simp [ownS, h]
  obtain ⟨R, hR⟩ : ∃ R, ownS t = R := ⟨_, rfl⟩
  rw [hR] at e0 e2 ⊢
  obtain ⟨rT, hrT⟩ : ∃ b, rightT t = b := ⟨_, rfl⟩
  rw [hrT] at HT e0 e2 h8
  obtain ⟨l, kn, kd⟩ := t
  dsimp only at *
  clear hr hw hR hrT hn
  cases rT
  · have E := Lib.hid (e0 rfl)
    clear e0 e2 h8 HS
    go_enter Try.func36, Try.ntmps36
    go_wp2_with fail
    refine (HT.out _ (by repeat (first | exact Below.refl _ _ | assumption | exact Hid.out (by assumption) | (with_reducible first | refine bw_drewN ?_ _ | refine bw_alloc ?_ _ | refine bw_drew ?_) | (refine bw_set ?_ (by first | exact Nat.le_refl _ | (simp; done) | (simp; omega) | omega) _)))).mono ?_
    rintro e w1 ⟨rfl, hw1⟩
    have B1 : Below w.heap.size w w1 := bw_then (by repeat (first | exact Below.refl _ _ | assumption | exact Hid.out (by assumption) | (with_reducible first | refine bw_drewN ?_ _ | refine bw_alloc ?_ _ | refine bw_drew ?_) | (refine bw_set ?_ (by first | exact Nat.le_refl _ | (simp; done) | (simp; omega) | omega) _))) hw1
    have R1 : w1.heap[w.heap.size + 1]? = some (.cells #[.slice none 0 0, .int .i64 0, .int .i64 0] 39 (0, 0)) := blk_below (blk_new' (by simp)) hw1
    have hz1 : w.heap.size + 1 < w1.heap.size := by have := hw1.size; simp at this; omega
    go_wp2_with fail
    refine (nought_calls _).mono ?_
    rintro e w2 ⟨rfl, hw2⟩
    have B2 : Below w.heap.size w w2 := bw_then B1 hw2
    have R2 := blk_below R1 hw2
    have hz2 : w.heap.size + 1 < w2.heap.size := Nat.lt_of_lt_of_le hz1 hw2.size
    have R2_c0 : w2.cell? ⟨w.heap.size + 1, 0, none⟩ = some (.slice none 0 0) := blk_cell R2 0; have R2_f0 : w2.frozen? ⟨w.heap.size + 1, 0, none⟩ = false := blk_frozen R2 0; have R2_c1 : w2.cell? ⟨w.heap.size + 1, 1, none⟩ = some (.int .i64 0) := blk_cell R2 1; have R2_f1 : w2.frozen? ⟨w.heap.size + 1, 1, none⟩ = false := blk_frozen R2 1; have R2_c2 : w2.cell? ⟨w.heap.size + 1, 2, none⟩ = some (.int .i64 0) := blk_cell R2 2; have R2_f2 : w2.frozen? ⟨w.heap.size + 1, 2, none⟩ = false := blk_frozen R2 2
    go_wp2_with fail
    refine bodyPost_ret (results_cell_row rfl _ _ (w.heap.size + 1) 39 #[.slice none 0 0, .int .i64 0, .int .i64 1] (0, 0) _ rfl (blk3 R2) Try.underlying39 rfl (by kernel_rfl)) rfl ?_
    rw [E.out]
    exact ⟨⟨none, 0, 0, rfl, rfl, Nat.le_refl _, Kd.F_nil _ _ _⟩, (by repeat (first | exact Below.refl _ _ | assumption | exact Hid.out (by assumption) | (with_reducible first | refine bw_drewN ?_ _ | refine bw_alloc ?_ _ | refine bw_drew ?_) | (refine bw_set ?_ (by first | exact Nat.le_refl _ | (simp; done) | (simp; omega) | omega) _)))⟩
  · have E := Lib.hid (e2 rfl)
    have h8a := h8 rfl
    have HSS := Lib.hid (HS.out h8a)
    clear e0 e2 h8 HS
    go_enter Try.func36, Try.ntmps36
    go_wp2_with fail
    refine (HT.out _ (by repeat (first | exact Below.refl _ _ | assumption | exact Hid.out (by assumption) | (with_reducible first | refine bw_drewN ?_ _ | refine bw_alloc ?_ _ | refine bw_drew ?_) | (refine bw_set ?_ (by first | exact Nat.le_refl _ | (simp; done) | (simp; omega) | omega) _)))).mono ?_
    rintro e w1 ⟨rfl, hw1⟩
    have B1 : Below w.heap.size w w1 := bw_then (by repeat (first | exact Below.refl _ _ | assumption | exact Hid.out (by assumption) | (with_reducible first | refine bw_drewN ?_ _ | refine bw_alloc ?_ _ | refine bw_drew ?_) | (refine bw_set ?_ (by first | exact Nat.le_refl _ | (simp; done) | (simp; omega) | omega) _))) hw1
    have R1 : w1.heap[w.heap.size + 1]? = some (.cells #[.slice none 0 0, .int .i64 0, .int .i64 0] 39 (0, 0)) := blk_below (blk_new' (by simp)) hw1
    have T1 : w1.heap[w.heap.size]? = some (.cells #[.slice A n cap, .int .i64 kn, .int .i64 kd] 39 (0, 0)) := blk_below (blk_alloc (blk_new _ _) _) hw1
    have hz1 : w.heap.size + 1 < w1.heap.size := by have := hw1.size; simp at this; omega
    have T1_c0 : w1.cell? ⟨w.heap.size, 0, none⟩ = some (.slice A n cap) := blk_cell T1 0; have T1_f0 : w1.frozen? ⟨w.heap.size, 0, none⟩ = false := blk_frozen T1 0; have T1_c1 : w1.cell? ⟨w.heap.size, 1, none⟩ = some (.int .i64 kn) := blk_cell T1 1; have T1_f1 : w1.frozen? ⟨w.heap.size, 1, none⟩ = false := blk_frozen T1 1; have T1_c2 : w1.cell? ⟨w.heap.size, 2, none⟩ = some (.int .i64 kd) := blk_cell T1 2; have T1_f2 : w1.frozen? ⟨w.heap.size, 2, none⟩ = false := blk_frozen T1 2
    go_wp2_with fail
    refine (HSS.out _ B1).mono ?_
    rintro e w2 ⟨A3, c3, m, rfl, hm, hc3, hF, hw2⟩
    have B2 : Below w.heap.size w w2 := bw_then B1 hw2
    have R2 := blk_below R1 hw2
    have hz2 : w.heap.size + 1 < w2.heap.size := Nat.lt_of_lt_of_le hz1 hw2.size
    have R2_c0 : w2.cell? ⟨w.heap.size + 1, 0, none⟩ = some (.slice none 0 0) := blk_cell R2 0; have R2_f0 : w2.frozen? ⟨w.heap.size + 1, 0, none⟩ = false := blk_frozen R2 0; have R2_c1 : w2.cell? ⟨w.heap.size + 1, 1, none⟩ = some (.int .i64 0) := blk_cell R2 1; have R2_f1 : w2.frozen? ⟨w.heap.size + 1, 1, none⟩ = false := blk_frozen R2 1; have R2_c2 : w2.cell? ⟨w.heap.size + 1, 2, none⟩ = some (.int .i64 0) := blk_cell R2 2; have R2_f2 : w2.frozen? ⟨w.heap.size + 1, 2, none⟩ = false := blk_frozen R2 2
    have HM := Lib.hid hm
    have HF := Lib.hid hF
    clear hm hF
    go_wp2_with fail
    refine bodyPost_ret (results_cell_row rfl _ _ (w.heap.size + 1) 39 #[.slice A3 m c3, .int .i64 kn, .int .i64 kd] (0, 0) _ rfl (blk3 R2) Try.underlying39 rfl (by kernel_rfl)) rfl ?_
    rw [E.out]
    exact ⟨⟨A3, c3, m, rfl, HM.out, hc3, F_put HF.out B1.size hz1⟩, (by repeat (first | exact Below.refl _ _ | assumption | exact Hid.out (by assumption) | (with_reducible first | refine bw_drewN ?_ _ | refine bw_alloc ?_ _ | refine bw_drew ?_) | (refine bw_set ?_ (by first | exact Nat.le_refl _ | (simp; done) | (simp; omega) | omega) _)))⟩
end Go.Proofs.Ytffpdaejemmgpaa.W
