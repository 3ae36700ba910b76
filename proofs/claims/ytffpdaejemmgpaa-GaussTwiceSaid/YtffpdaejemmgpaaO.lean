/- This file holds the walks of the functions that term.Scale and term.Add hand on. -/
import Derived.Test.YtffpdaejemmgpaaN
namespace Go.Proofs.Ytffpdaejemmgpaa.W
open Go.RowKit Go.Proofs.YtffpdaejemmgpaaW.PrintWords Go.Proofs.YtffpdaejemmgpaaW.PrintMore
set_option linter.unusedVariables false
set_option linter.unusedSimpArgs false
/-- A variable's fraction; the constant (-1). -/
def oneT (t : T) (i : Int) : Q := if i < 0 then t.k else atT t i
theorem atT_wf {t : T} (h : t.wf) (i : Int) : (atT t i).wf := by
  unfold atT
  split
  · exact wf_mk (by decide) (by decide) (by decide) (by decide)
  · rw [List.getD_eq_getElem?_getD]
    cases e : t.c[i.toNat]? with
    | none => exact wf_mk (by decide) (by decide) (by decide) (by decide)
    | some q => exact h.1 q (List.mem_of_getElem? e)
theorem oneT_wf {t : T} (h : t.wf) (i : Int) : (oneT t i).wf := by
  unfold oneT; split
  · exact h.2
  · exact atT_wf h i
theorem atT_right {t : T} (h : rightT t = true) (i : Int) : rightB (atT t i) = true := by
  unfold atT
  split
  · decide
  · rw [List.getD_eq_getElem?_getD]
    cases e : t.c[i.toNat]? with
    | none => decide
    | some q =>
      simp only [rightT, Bool.and_eq_true, Bool.not_eq_true', List.any_eq_false] at h
      have := h.2 q (List.mem_of_getElem? e)
      simpa using this
theorem oneT_right {t : T} (h : rightT t = true) (i : Int) : rightB (oneT t i) = true := by
  unfold oneT; split
  · simp only [rightT, Bool.and_eq_true] at h; exact h.1.2
  · exact atT_right h i
theorem one_calls' (t : T) (A : Option Addr) (cap n : Nat) (i a b : Int) (hn : t.c.length = n) (ho : oneT t i = ⟨a, b⟩) (w : World) (hr : Kd.C kQ w A n t.c) :
    Calls Try.prog 86 #[.agg #[.slice A n cap, .int .i64 t.k.n, .int .i64 t.k.d], .int .i64 i] w fun e w' => e = .returned (.agg #[.int .i64 a, .int .i64 b]) ∧ Below w.heap.size w w' := by
  subst hn
  have h := one_calls t A cap i w hr
  rw [show (if i < 0 then t.k else atT t i) = ⟨a, b⟩ from ho] at h
  exact h
set_option maxHeartbeats 4000000 in
theorem Scale1_calls (t : T) (by_ : Q) (A : Option Addr) (cap n : Nat) (i : Int) (hn : t.c.length = n) (hw : t.wf) (hb : by_.wf) (b1 b2 : Nat) (w : World) (hb1 : w.heap[b1]? = some (.cells #[.slice A n cap, .int .i64 t.k.n, .int .i64 t.k.d] 39 (0, 0))) (hb2 : w.heap[b2]? = some (.cells #[.int .i64 by_.n, .int .i64 by_.d] 36 (0, 0))) (hr : Kd.C kQ w A n t.c) :
    Calls Try.prog 84 #[.int .i64 i, .pointer (some ⟨b1, 0, none⟩), .pointer (some ⟨b2, 0, none⟩)] w fun e w' => e = qe (mulS (oneT t i) by_) ∧ Below w.heap.size w w' := by
  obtain ⟨⟨a, b⟩, ho⟩ : ∃ q, oneT t i = q := ⟨_, rfl⟩
  have hwf := oneT_wf hw i
  rw [ho] at hwf ⊢
  obtain ⟨⟨⟨rn, rd⟩, re⟩, hR⟩ : ∃ r, mulS ⟨a, b⟩ by_ = r := ⟨_, rfl⟩
  have HM := Lib.hid fun W => qe_calls (Mul_calls ⟨a, b⟩ by_ hwf hb W) hR
  rw [hR]
  have HO := Lib.hid fun W hbl => one_calls' t A cap n i a b hn ho W (Kd.C_below hr hbl)
  obtain ⟨bn, bd⟩ := by_
  obtain ⟨l, kn, kd⟩ := t
  dsimp only at *
  have hl1 := blk_lt hb1
  have hl2 := blk_lt hb2
  clear hr hwf hw hb ho hR hn
  have hb1_c0 : w.cell? ⟨b1, 0, none⟩ = some (.slice A n cap) := blk_cell hb1 0; have hb1_f0 : w.frozen? ⟨b1, 0, none⟩ = false := blk_frozen hb1 0; have hb1_c1 : w.cell? ⟨b1, 1, none⟩ = some (.int .i64 kn) := blk_cell hb1 1; have hb1_f1 : w.frozen? ⟨b1, 1, none⟩ = false := blk_frozen hb1 1; have hb1_c2 : w.cell? ⟨b1, 2, none⟩ = some (.int .i64 kd) := blk_cell hb1 2; have hb1_f2 : w.frozen? ⟨b1, 2, none⟩ = false := blk_frozen hb1 2
  have hb2_c0 : w.cell? ⟨b2, 0, none⟩ = some (.int .i64 bn) := blk_cell hb2 0; have hb2_f0 : w.frozen? ⟨b2, 0, none⟩ = false := blk_frozen hb2 0; have hb2_c1 : w.cell? ⟨b2, 1, none⟩ = some (.int .i64 bd) := blk_cell hb2 1; have hb2_f1 : w.frozen? ⟨b2, 1, none⟩ = false := blk_frozen hb2 1
  go_enter Try.func84, Try.ntmps84
  go_wp2_with fail
  go_region_with (first | (go_at_call 86; refine (HO.out _ (by repeat (first | exact Below.refl _ _ | assumption | exact Hid.out (by assumption) | (with_reducible first | refine bw_drewN ?_ _ | refine bw_alloc ?_ _ | refine bw_drew ?_) | (refine bw_set ?_ (by first | exact Nat.le_refl _ | (simp; done) | (simp; omega) | omega) _)))).mono ?_; rintro e w1 ⟨rfl, hw1⟩; obtain ⟨hcl, hfr⟩ := bcell hw1; have hz : w.heap.size < w1.heap.size := (by have := hw1.size; (try simp at this); omega)) | (go_at_call 85; refine (HM.out _).mono ?_; rintro e w2 ⟨rfl, hw2⟩; obtain ⟨hcl2, hfr2⟩ := bcell hw2; have hz2 : w.heap.size < w2.heap.size := (by have := hw2.size; (try simp at this); omega)))
  all_goals
    go_wp2_with fail
    have R1 : w1.heap[w.heap.size]? = some (.cells #[.int .i64 0, .int .i64 0] 36 (0, 0)) := blk_below (blk_drew (blk_new _ _)) hw1
    have R2 := blk_below R1 hw2
    have B1 : Below w.heap.size w w1 := bw_then (by repeat (first | exact Below.refl _ _ | assumption | exact Hid.out (by assumption) | (with_reducible first | refine bw_drewN ?_ _ | refine bw_alloc ?_ _ | refine bw_drew ?_) | (refine bw_set ?_ (by first | exact Nat.le_refl _ | (simp; done) | (simp; omega) | omega) _))) hw1
    have B2 : Below w.heap.size w w2 := bw_then B1 hw2
    refine bodyPost_ret (results_ct rfl _ _ w.heap.size 36 #[.int .i64 rn, .int .i64 rd] (0, 0) _ rfl (blk2 R2) Try.underlying36 rfl (by kernel_rfl)) rfl ?_
    exact ⟨qe_of rfl rfl, (by repeat (first | exact Below.refl _ _ | assumption | exact Hid.out (by assumption) | (with_reducible first | refine bw_drewN ?_ _ | refine bw_alloc ?_ _ | refine bw_drew ?_) | (refine bw_set ?_ (by first | exact Nat.le_refl _ | (simp; done) | (simp; omega) | omega) _)))⟩
set_option maxHeartbeats 4000000 in
theorem Add1_calls (t u : T) (A A' : Option Addr) (cap cap' n n' : Nat) (i : Int) (hn : t.c.length = n) (hn' : u.c.length = n') (hw : t.wf) (hw' : u.wf) (ht : rightT t = true) (hu : rightT u = true) (b1 b2 : Nat) (w : World) (hb1 : w.heap[b1]? = some (.cells #[.slice A n cap, .int .i64 t.k.n, .int .i64 t.k.d] 39 (0, 0))) (hb2 : w.heap[b2]? = some (.cells #[.slice A' n' cap', .int .i64 u.k.n, .int .i64 u.k.d] 39 (0, 0))) (hr : Kd.C kQ w A n t.c) (hr' : Kd.C kQ w A' n' u.c) :
    Calls Try.prog 122 #[.int .i64 i, .pointer (some ⟨b1, 0, none⟩), .pointer (some ⟨b2, 0, none⟩)] w fun e w' => e = qe (addS (oneT t i) (oneT u i)) ∧ Below w.heap.size w w' := by
  obtain ⟨⟨a, b⟩, ho⟩ : ∃ q, oneT t i = q := ⟨_, rfl⟩
  obtain ⟨⟨a', b'⟩, ho'⟩ : ∃ q, oneT u i = q := ⟨_, rfl⟩
  have hwf := oneT_wf hw i
  have hwf' := oneT_wf hw' i
  have hri := oneT_right ht i
  have hri' := oneT_right hu i
  rw [ho] at hwf hri ⊢
  rw [ho'] at hwf' hri' ⊢
  obtain ⟨⟨⟨rn, rd⟩, re⟩, hR⟩ : ∃ r, addS ⟨a, b⟩ ⟨a', b'⟩ = r := ⟨_, rfl⟩
  have HM := Lib.hid fun W => qe_calls (Add_calls ⟨a, b⟩ ⟨a', b'⟩ hwf hwf' hri hri' W) hR
  rw [hR]
  have HO := Lib.hid fun W hbl => one_calls' t A cap n i a b hn ho W (Kd.C_below hr hbl)
  have HO' := Lib.hid fun W hbl => one_calls' u A' cap' n' i a' b' hn' ho' W (Kd.C_below hr' hbl)
  obtain ⟨l, kn, kd⟩ := t
  obtain ⟨l', kn', kd'⟩ := u
  dsimp only at *
  have hl1 := blk_lt hb1
  have hl2 := blk_lt hb2
  clear hr hr' hwf hwf' hri hri' hw hw' ho ho' ht hu hR hn hn'
  have hb1_c0 : w.cell? ⟨b1, 0, none⟩ = some (.slice A n cap) := blk_cell hb1 0; have hb1_f0 : w.frozen? ⟨b1, 0, none⟩ = false := blk_frozen hb1 0; have hb1_c1 : w.cell? ⟨b1, 1, none⟩ = some (.int .i64 kn) := blk_cell hb1 1; have hb1_f1 : w.frozen? ⟨b1, 1, none⟩ = false := blk_frozen hb1 1; have hb1_c2 : w.cell? ⟨b1, 2, none⟩ = some (.int .i64 kd) := blk_cell hb1 2; have hb1_f2 : w.frozen? ⟨b1, 2, none⟩ = false := blk_frozen hb1 2
  have hb2_c0 : w.cell? ⟨b2, 0, none⟩ = some (.slice A' n' cap') := blk_cell hb2 0; have hb2_f0 : w.frozen? ⟨b2, 0, none⟩ = false := blk_frozen hb2 0; have hb2_c1 : w.cell? ⟨b2, 1, none⟩ = some (.int .i64 kn') := blk_cell hb2 1; have hb2_f1 : w.frozen? ⟨b2, 1, none⟩ = false := blk_frozen hb2 1; have hb2_c2 : w.cell? ⟨b2, 2, none⟩ = some (.int .i64 kd') := blk_cell hb2 2; have hb2_f2 : w.frozen? ⟨b2, 2, none⟩ = false := blk_frozen hb2 2
  go_enter Try.func122, Try.ntmps122
  go_wp2_with fail
  go_region_with (first | (go_at_call_of 86 kn; refine (HO.out _ (by repeat (first | exact Below.refl _ _ | assumption | exact Hid.out (by assumption) | (with_reducible first | refine bw_drewN ?_ _ | refine bw_alloc ?_ _ | refine bw_drew ?_) | (refine bw_set ?_ (by first | exact Nat.le_refl _ | (simp; done) | (simp; omega) | omega) _)))).mono ?_; rintro e w1 ⟨rfl, hw1⟩; obtain ⟨hcl, hfr⟩ := bcell hw1; have hz : w.heap.size < w1.heap.size := (by have := hw1.size; (try simp at this); omega); have B1 : Below w.heap.size w w1 := bw_then (by repeat (first | exact Below.refl _ _ | assumption | exact Hid.out (by assumption) | (with_reducible first | refine bw_drewN ?_ _ | refine bw_alloc ?_ _ | refine bw_drew ?_) | (refine bw_set ?_ (by first | exact Nat.le_refl _ | (simp; done) | (simp; omega) | omega) _))) hw1) | (go_at_call_of 86 kn'; refine (HO'.out _ B1).mono ?_; rintro e w2 ⟨rfl, hw2⟩; obtain ⟨hcl2, hfr2⟩ := bcell hw2; have hz2 : w.heap.size < w2.heap.size := (by have := hw2.size; (try simp at this); omega)) | (go_at_call 104; refine (HM.out _).mono ?_; rintro e w3 ⟨rfl, hw3⟩; obtain ⟨hcl3, hfr3⟩ := bcell hw3; have hz3 : w.heap.size < w3.heap.size := (by have := hw3.size; (try simp at this); omega)))
  all_goals
    go_wp2_with fail
    have R1 : w1.heap[w.heap.size]? = some (.cells #[.int .i64 0, .int .i64 0] 36 (0, 0)) := blk_below (blk_drew (blk_new _ _)) hw1
    have R2 := blk_below R1 hw2
    have R3 := blk_below R2 hw3
    have B2 : Below w.heap.size w w2 := bw_then B1 hw2
    have B3 : Below w.heap.size w w3 := bw_then B2 hw3
    refine bodyPost_ret (results_ct rfl _ _ w.heap.size 36 #[.int .i64 rn, .int .i64 rd] (0, 0) _ rfl (blk2 R3) Try.underlying36 rfl (by kernel_rfl)) rfl ?_
    exact ⟨qe_of rfl rfl, (by repeat (first | exact Below.refl _ _ | assumption | exact Hid.out (by assumption) | (with_reducible first | refine bw_drewN ?_ _ | refine bw_alloc ?_ _ | refine bw_drew ?_) | (refine bw_set ?_ (by first | exact Nat.le_refl _ | (simp; done) | (simp; omega) | omega) _)))⟩
end Go.Proofs.Ytffpdaejemmgpaa.W
