/- This file holds the walk of slices.Clone over fractions. -/
import Derived.Test.YtffpdaejemmgpaaK
import Derived.Test.YtffpdaejemmgpaaWN
import Derived.Test.YtffpdaejemmgpaaWMore
import Derived.Lib.SliceRun
namespace Go.Proofs.Ytffpdaejemmgpaa.W
open Go.RowKit Go.Proofs.YtffpdaejemmgpaaW.PrintWords Go.Proofs.YtffpdaejemmgpaaW.PrintMore
set_option linter.unusedVariables false
set_option linter.unusedSimpArgs false
theorem infoRat : (Try.prog.info? 36).map (fun i => (i.zero, i.size, i.bytes)) = some (some (.agg #[.int .i64 0, .int .i64 0]), 2, 16) := by kernel_rfl
/-- A slice of fractions in new memory. -/
def NewQs (w w' : World) (v : Value) (xs : List Q) : Prop := ∃ A c, v = .slice A xs.length c ∧ xs.length ≤ c ∧ Kd.F kQ w' (fun k => w.heap.size ≤ k) A xs.length xs
theorem NewQs.of_R {w w' : World} {v : Value} {xs : List Q} {base : Nat} (h : kQ.R 36 w' base (fun k => w.heap.size ≤ k) v xs) : NewQs w w' v xs := by
  obtain ⟨A, c, rfl, hl, _⟩ := Kd.R_reads h
  exact ⟨A, c, rfl, hl, Kd.R_F h⟩
theorem NewQs.nil (w w' : World) : NewQs w w' (.slice none 0 0) [] := ⟨none, 0, rfl, Nat.le_refl _, Kd.F_nil _ _ _⟩
theorem NewQs.step {w w1 w' : World} {v : Value} {xs : List Q} (h : NewQs w1 w' v xs) (hs : w.heap.size ≤ w1.heap.size) : NewQs w w' v xs := by
  obtain ⟨A, c, rfl, hl, hf⟩ := h
  exact ⟨A, c, rfl, hl, Kd.F_mono hf fun k hk => Nat.le_trans hs hk⟩
theorem NewQs.below {w w1 w' : World} {v : Value} {xs : List Q} (h : NewQs w w1 v xs) (hb : Below w1.heap.size w1 w') : NewQs w w' v xs := by
  obtain ⟨A, c, rfl, hl, hf⟩ := h
  exact ⟨A, c, rfl, hl, Kd.F_below hf hb⟩
set_option maxHeartbeats 2000000 in
theorem CloneRat_calls (A : Option Addr) (c : Nat) (xs : List Q) (hl : xs.length * 16 ≤ 140737488355328) (w : World) (hr : Kd.C kQ w A xs.length xs) :
    Calls Try.prog 94 #[.slice A xs.length c] w fun e w' => (∃ v, e = .returned v ∧ NewQs w w' v xs) ∧ Below w.heap.size w w' := by
  have qT : ∀ (w : World) (a : Option Addr) (n c n' c' : Nat), (binOp .eql 23 (.slice a n c) (.slice none n' c')).run Try.prog w = .ok (.bool a.isNone) w := fun w a n c n' c' => Lib.run_eql_slice_nil w _ _ a n c n' c' Try.underlying23
  rcases A with _ | ad
  · have hx : xs = [] := by
      rcases Nat.eq_zero_or_pos xs.length with h | h
      · exact List.eq_nil_of_length_eq_zero h
      · obtain ⟨ad, e, _⟩ := hr.2.2 h; cases e
    subst hx
    clear hr hl
    go_enter Try.func94, Try.ntmps94
    go_wp2_with fail
    go_ret
    exact ⟨⟨_, rfl, NewQs.nil _ _⟩, (by repeat (first | exact Below.refl _ _ | assumption | exact Hid.out (by assumption) | (with_reducible first | refine bw_drewN ?_ _ | refine bw_alloc ?_ _ | refine bw_drew ?_) | (refine bw_set ?_ (by first | exact Nat.le_refl _ | (simp; done) | (simp; omega) | omega) _)))⟩
  · have HR := Lib.hid hr
    have hm := hr.2.1
    have HL := Lib.hid hl
    clear hr hl
    go_enter Try.func94, Try.ntmps94
    go_wp2_with (first | ((with_reducible refine gate_dst (N := 5) rfl ?_); refine Kd.R_lit kQ (w0 := w) w.heap.size 36 ?hg (N := 5) ?hd (xs := ([] : List Q)) (inner := []) (ok := fun k => w.heap.size ≤ k) (okp := fun k => w.heap.size ≤ k) ?hr ?hp (fun _ hk => hk) (Nat.le_refl _) (Below.refl _ _) (Nat.le_refl _) (by simp) ?_; (case hd => rfl); (case hg => rfl); (case hr => first | (go_simp; done) | (go_simp; rfl)); (case hp => exact Reps.none _ _); intro v1 w1 ho1 hb1 hg1 hn1; have HO := Lib.hid ho1; have HB := Lib.hid hb1; clear ho1 hb1 hg1 hn1) | ((with_reducible refine gate_builtin (b := .append) (xs := #[.tmp 5, .tmp 6]) rfl ?_); at_builtin; refine Kd.R_append_rows kQ (w0 := w) w.heap.size rfl (.tmp 5) (.tmp 6) 23 36 (.agg #[.int .i64 0, .int .i64 0]) 16 rfl Try.underlying23 infoRat rfl (by decide) (by omega) v1 [] xs _ _ _ (fun k => w.heap.size ≤ k) (fun _ => False) rfl rfl HO.out (Kd.C_below HR.out HB.out) (fun x cs h => by rw [kQ_open h]; exact kQ_mkM _ _ _ x) (fun _ h => h.elim) (fun k hk => Nat.le_trans HB.out.size hk) HB.out HB.out.size (by simpa using HL.out) ?_; intro v2 w2 ho2 hb2 hg2 hn2; have HO2 := Lib.hid ho2; have HB2 := Lib.hid hb2; clear ho2 hb2 hg2 hn2))
    go_ret
    exact ⟨⟨_, rfl, NewQs.of_R HO2.out⟩, HB2.out⟩
end Go.Proofs.Ytffpdaejemmgpaa.W
