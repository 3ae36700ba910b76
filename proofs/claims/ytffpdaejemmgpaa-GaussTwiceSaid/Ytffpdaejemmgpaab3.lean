/- This file holds the walks of the reference's comparisons, of what is equal. -/
import Derived.Test.Ytffpdaejemmgpaab2
import Derived.Deep.RegionHeld3
namespace Go.Proofs.Ytffpdaejemmgpaa.W
open Go.RowKit Go.Proofs.YtffpdaejemmgpaaW.PrintWords Go.Proofs.YtffpdaejemmgpaaW.PrintMore
set_option linter.unusedVariables false
set_option linter.unusedSimpArgs false
attribute [local go_sem high] eqRat
set_option maxHeartbeats 2000000 in
theorem Equal_calls (t : T) (A A' : Option Addr) (cap cap' n : Nat) (w : World) (hr : Kd.C kQ w A n t.c) (hr' : Kd.C kQ w A' n t.c) :
    Calls Try.prog 42 #[.agg #[.slice A n cap, .int .i64 t.k.n, .int .i64 t.k.d], .agg #[.slice A' n cap', .int .i64 t.k.n, .int .i64 t.k.d]] w fun e w' => e = .returned (.bool true) ∧ Below w.heap.size w w' := by
  obtain ⟨l, kn, kd⟩ := t
  dsimp only at *
  have hm := hr.2.1
  have HR := Lib.hid hr
  have HR' := Lib.hid hr'
  have hw0 : Hid (∀ W, Below w.heap.size w W → Below w.heap.size w W) := Lib.hid fun _ h => h
  clear hr hr'
  go_enter Try.func42, Try.ntmps42
  go_wp2_with fail
  obtain ⟨W0, hW0⟩ : ∃ W0, W0 = (w.alloc (.cells #[.slice A n cap, .int .i64 kn, .int .i64 kd] 39)).alloc (.cells #[.slice A' n cap', .int .i64 kn, .int .i64 kd] 39) := ⟨_, rfl⟩
  have T0 : W0.heap[w.heap.size]? = some (.cells #[.slice A n cap, .int .i64 kn, .int .i64 kd] 39 (0, 0)) := by rw [hW0]; exact blk_alloc (blk_new _ _) _
  have T1 : W0.heap[w.heap.size + 1]? = some (.cells #[.slice A' n cap', .int .i64 kn, .int .i64 kd] 39 (0, 0)) := by rw [hW0]; exact (blk_new' (by simp))
  have B0 : Below w.heap.size w W0 := by rw [hW0]; exact (by repeat (first | exact Below.refl _ _ | assumption | exact Hid.out (by assumption) | (with_reducible first | refine bw_drewN ?_ _ | refine bw_alloc ?_ _ | refine bw_drew ?_) | (refine bw_set ?_ (by first | exact Nat.le_refl _ | (simp; done) | (simp; omega) | omega) _)))
  rw [← hW0]
  clear hW0
  go_loopw [5] (fun i wr => ∃ k : Nat, k ≤ n ∧ i = .int .i64 k ∧ Hid (Below W0.heap.size W0 wr)) (fun i _ => n - (intOf i).toNat)
  case atStart => exact ⟨0, by omega, rfl, Lib.hid (Below.refl _ _)⟩
  case round =>
    obtain ⟨k, hk, rfl, hB⟩ := hrel
    have T0' := blk_below T0 hB.out
    have T1' := blk_below T1 hB.out
    have T0'_c0 : wr.cell? ⟨w.heap.size, 0, none⟩ = some (.slice A n cap) := blk_cell T0' 0; have T0'_f0 : wr.frozen? ⟨w.heap.size, 0, none⟩ = false := blk_frozen T0' 0; have T0'_c1 : wr.cell? ⟨w.heap.size, 1, none⟩ = some (.int .i64 kn) := blk_cell T0' 1; have T0'_f1 : wr.frozen? ⟨w.heap.size, 1, none⟩ = false := blk_frozen T0' 1; have T0'_c2 : wr.cell? ⟨w.heap.size, 2, none⟩ = some (.int .i64 kd) := blk_cell T0' 2; have T0'_f2 : wr.frozen? ⟨w.heap.size, 2, none⟩ = false := blk_frozen T0' 2
    have T1'_c0 : wr.cell? ⟨w.heap.size + 1, 0, none⟩ = some (.slice A' n cap') := blk_cell T1' 0; have T1'_f0 : wr.frozen? ⟨w.heap.size + 1, 0, none⟩ = false := blk_frozen T1' 0; have T1'_c1 : wr.cell? ⟨w.heap.size + 1, 1, none⟩ = some (.int .i64 kn) := blk_cell T1' 1; have T1'_f1 : wr.frozen? ⟨w.heap.size + 1, 1, none⟩ = false := blk_frozen T1' 1; have T1'_c2 : wr.cell? ⟨w.heap.size + 1, 2, none⟩ = some (.int .i64 kd) := blk_cell T1' 2; have T1'_f2 : wr.frozen? ⟨w.heap.size + 1, 2, none⟩ = false := blk_frozen T1' 2
    clear T0' T1'
    by_cases hlt : k < n
    · obtain ⟨ad, rfl, c0, c1⟩ := kQ_at (Kd.C_below HR.out (B0.trans (hB.out.mono B0.size))) k hlt
      obtain ⟨ad', rfl, d0, d1⟩ := kQ_at (Kd.C_below HR'.out (B0.trans (hB.out.mono B0.size))) k hlt
      generalize l.getD k zQ = q at *
      obtain ⟨qn, qd⟩ := q
      dsimp only at c0 c1 d0 d1
      go_wp2_with fail
      go_quiet (fail)
      go_wp2_with fail
      go_roundw
      case rel => exact ⟨k + 1, by omega, by go_num, Lib.hid (bw_drewN hB.out _)⟩
      case measure => simp [intOf]; omega
    · obtain rfl : k = n := by omega
      go_wp2_with fail
      go_ret
      exact ⟨rfl, B0.trans (hB.out.mono B0.size)⟩
set_option maxHeartbeats 2000000 in
theorem Ints_calls (A A' : Option Addr) (cap cap' n : Nat) (l : List Int) (w : World) (hr : Kd.C (Kd.int .i64) w A n l) (hr' : Kd.C (Kd.int .i64) w A' n l) :
    Calls Try.prog 20 #[.slice A n cap, .slice A' n cap'] w fun e w' => e = .returned (.bool true) ∧ Below w.heap.size w w' := by
  have hm := hr.2.1
  have HR := Lib.hid hr
  have HR' := Lib.hid hr'
  clear hr hr'
  go_enter Try.func20, Try.ntmps20
  go_wp2_with fail
  go_loopw [5] (fun i wr => ∃ k : Nat, k ≤ n ∧ i = .int .i64 k ∧ Hid (Below w.heap.size w wr)) (fun i _ => n - (intOf i).toNat)
  case atStart => exact ⟨0, by omega, rfl, Lib.hid (Below.refl _ _)⟩
  case round =>
    obtain ⟨k, hk, rfl, hB⟩ := hrel
    by_cases hlt : k < n
    · obtain ⟨ad, rfl, c0⟩ := kI_at (Kd.C_below HR.out hB.out) k hlt
      obtain ⟨ad', rfl, d0⟩ := kI_at (Kd.C_below HR'.out hB.out) k hlt
      generalize l.getD k 0 = q at *
      go_wp2_with fail
      go_quiet (fail)
      go_wp2_with fail
      go_roundw
      case rel => exact ⟨k + 1, by omega, by go_num, Lib.hid (bw_drewN hB.out _)⟩
      case measure => simp [intOf]; omega
    · obtain rfl : k = n := by omega
      go_wp2_with fail
      go_ret
      exact ⟨rfl, hB.out⟩
set_option maxRecDepth 8000 in
set_option maxHeartbeats 2000000 in
theorem Same_calls (A A' : Option Addr) (cap cap' n : Nat) (l : List T) (w : World) (hr : Kd.C kT w A n l) (hr' : Kd.C kT w A' n l) :
    Calls Try.prog 19 #[.slice A n cap, .slice A' n cap'] w fun e w' => e = .returned (.bool true) ∧ Below w.heap.size w w' := by
  have hm := hr.2.1
  have HR := Lib.hid hr
  have HR' := Lib.hid hr'
  clear hr hr'
  go_enter Try.func19, Try.ntmps19
  go_wp2_with fail
  go_loopw [5] (fun i wr => ∃ k : Nat, k ≤ n ∧ i = .int .i64 k ∧ Hid (Below w.heap.size w wr)) (fun i _ => n - (intOf i).toNat)
  case atStart => exact ⟨0, by omega, rfl, Lib.hid (Below.refl _ _)⟩
  case round =>
    obtain ⟨k, hk, rfl, hB⟩ := hrel
    by_cases hlt : k < n
    · obtain ⟨ad, B, m, c, rfl, c0, c1, c2, hm1, _, hC⟩ := kT_at (Kd.C_below HR.out hB.out) k hlt
      obtain ⟨ad', B', m', c', rfl, d0, d1, d2, hm2, _, hC'⟩ := kT_at (Kd.C_below HR'.out hB.out) k hlt
      obtain rfl : m = m' := by rw [← hm1, ← hm2]
      have HE := Lib.hid fun W hb => Equal_calls (l.getD k zT) B B' c c' m W (Kd.C_below (w1 := W) hC hb) (Kd.C_below (w1 := W) hC' hb)
      obtain ⟨⟨kn, kd⟩, hkk⟩ : ∃ q, (l.getD k zT).k = q := ⟨_, rfl⟩
      rw [hkk] at c1 c2 d1 d2 HE
      dsimp only at c1 c2 d1 d2 HE
      have HX := Lib.hid (And.intro c0 (And.intro c1 (And.intro c2 (And.intro d0 (And.intro d1 d2)))))
      clear hm1 hm2 hC hC' hkk
      go_wp2_with fail
      go_region_held3 (fun w' : World => w'.cell? (ad.add (k * 3)) = some (.slice B m c) ∧ w'.cell? ⟨(ad.add (k * 3)).block, (ad.add (k * 3)).off + 1, none⟩ = some (.int .i64 kn) ∧ w'.cell? ⟨(ad.add (k * 3)).block, (ad.add (k * 3)).off + 2, none⟩ = some (.int .i64 kd) ∧
          w'.cell? (ad'.add (k * 3)) = some (.slice B' m c') ∧ w'.cell? ⟨(ad'.add (k * 3)).block, (ad'.add (k * 3)).off + 1, none⟩ = some (.int .i64 kn) ∧ w'.cell? ⟨(ad'.add (k * 3)).block, (ad'.add (k * 3)).off + 2, none⟩ = some (.int .i64 kd))
        (first | exact HX.out | exact HE1.out)
        (first | (go_at_call 42; refine (HE.out _ (by repeat (first | exact Below.refl _ _ | assumption | exact Hid.out (by assumption) | (with_reducible first | refine bw_drewN ?_ _ | refine bw_alloc ?_ _ | refine bw_drew ?_) | (refine bw_set ?_ (by first | exact Nat.le_refl _ | (simp; done) | (simp; omega) | omega) _)))).mono ?_; rintro e w5 ⟨rfl, hw5⟩; have HB5 := Lib.hid (bw_then hB.out (bw_then (by repeat (first | exact Below.refl _ _ | assumption | exact Hid.out (by assumption) | (with_reducible first | refine bw_drewN ?_ _ | refine bw_alloc ?_ _ | refine bw_drew ?_) | (refine bw_set ?_ (by first | exact Nat.le_refl _ | (simp; done) | (simp; omega) | omega) _))) hw5)); have HE1 := Lib.hid (six_below hw5 HX.out); clear hw5))
      go_wp2_with fail
      go_roundw
      case rel => exact ⟨k + 1, by omega, by go_num, HB5⟩
      case measure => simp [intOf]; omega
    · obtain rfl : k = n := by omega
      go_wp2_with fail
      go_ret
      exact ⟨rfl, hB.out⟩
end Go.Proofs.Ytffpdaejemmgpaa.W
