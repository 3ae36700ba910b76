/- This file holds the walk of term.trim. -/
import Derived.Test.YtffpdaejemmgpaaL
import Derived.Deep.RegionWith
namespace Go.Proofs.Ytffpdaejemmgpaa.W
open Go.RowKit Go.Proofs.YtffpdaejemmgpaaW.PrintWords
set_option linter.unusedVariables false
set_option linter.unusedSimpArgs false
theorem C_take' {w : World} {A : Option Addr} {xs : List Q} {m : Nat} (h : Kd.C kQ w A xs.length xs) (hm : m ≤ xs.length) : Kd.C kQ w A m (xs.take m) := by
  obtain ⟨h1, h2, h3⟩ := h
  refine ⟨by rw [List.length_take]; omega, by omega, fun hp => ?_⟩
  obtain ⟨ad, e, hc⟩ := h3 (by omega)
  refine ⟨ad, e, fun j p hj => hc j p ?_⟩
  rw [List.getElem?_take] at hj
  split at hj
  · exact hj
  · cases hj
/-- How many fractions are left without the noughts at the end. -/
def trimN (l : List Q) : Nat → Nat
  | 0 => 0
  | n + 1 => if (l.getD n zQ).n = 0 then trimN l n else n + 1
def trimS (l : List Q) : List Q := l.take (trimN l l.length)
theorem trimN_le (l : List Q) (n : Nat) : trimN l n ≤ n := by
  induction n with
  | zero => exact Nat.le_refl _
  | succ n ih => unfold trimN; split <;> omega
/-- A term in new memory. -/
def NewT (w w' : World) (e : Value) (t : T) : Prop := ∃ A c, e = .agg #[.slice A t.c.length c, .int .i64 t.k.n, .int .i64 t.k.d] ∧ t.c.length ≤ c ∧ Kd.F kQ w' (fun k => w.heap.size ≤ k) A t.c.length t.c
theorem CloneRat_calls' (A : Option Addr) (c n : Nat) (xs : List Q) (hn : xs.length = n) (hl : n * 16 ≤ 140737488355328) (w : World) (hr : Kd.C kQ w A n xs) :
    Calls Try.prog 94 #[.slice A n c] w fun e w' => ∃ (A' : Option Addr) (c' : Nat), e = .returned (.slice A' n c') ∧ n ≤ c' ∧ Kd.F kQ w' (fun k => w.heap.size ≤ k) A' n xs ∧ Below w.heap.size w w' := by
  subst hn
  exact (CloneRat_calls A c xs hl w hr).mono fun e w' ⟨⟨v, he, A', c', hv, hc, hf⟩, hb⟩ => ⟨A', c', by rw [he, hv], hc, hf, hb⟩
theorem NewT.put {w w1 : World} {t : T} {A' : Option Addr} {c' K N g : Nat} {a b c : Value} (hK : t.c.length = K) (hc : K ≤ c') (hF : Kd.F kQ w1 (fun k => N ≤ k) A' K t.c) (hN : w.heap.size ≤ N) (hg : g < N) :
    NewT w (((w1.setCell ⟨g, 0, none⟩ a).setCell ⟨g, 1, none⟩ b).setCell ⟨g, 2, none⟩ c) (.agg #[.slice A' K c', .int .i64 t.k.n, .int .i64 t.k.d]) t := by
  subst hK
  refine ⟨A', c', rfl, hc, Kd.F_mono (Kd.F_far (Kd.F_far (Kd.F_far hF ?_ _) ?_ _) ?_ _) (fun k hk => Nat.le_trans hN hk)⟩
  all_goals
    intro k hk e
    dsimp only at e
    omega
set_option maxHeartbeats 4000000 in
theorem trim_calls (t : T) (A : Option Addr) (cap : Nat) (hl : t.c.length ≤ 1000000) (hcap : t.c.length ≤ cap) (w : World) (hr : Kd.C kQ w A t.c.length t.c) :
    Calls Try.prog 61 #[.agg #[.slice A t.c.length cap, .int .i64 t.k.n, .int .i64 t.k.d]] w fun e w' => (∃ v, e = .returned v ∧ NewT w w' v ⟨trimS t.c, t.k⟩) ∧ Below w.heap.size w w' := by
  obtain ⟨l, kn, kd⟩ := t
  dsimp only at *
  have HRd := Lib.hid hr
  clear hr
  have HT : Hid (∀ m, trimN l m = trimN l l.length → m ≤ l.length → (l.take m).length = m) := Lib.hid fun m _ h => by simp; omega
  obtain ⟨n, hn⟩ : ∃ n, l.length = n := ⟨_, rfl⟩
  have HN := Lib.hid hn
  rw [hn] at hl hcap
  go_enter Try.func61, Try.ntmps61
  go_wp2_with fail
  go_loop [3] (fun i => ∃ k : Nat, k ≤ n ∧ i = .int .i64 k ∧ Hid (trimN l k = trimN l n)) (fun i => (intOf i).toNat)
  case atStart => exact ⟨n, Nat.le_refl _, by first | rfl | (rw [hn]), Lib.hid rfl⟩
  case round =>
    obtain ⟨k, hk, rfl, ht⟩ := hrel
    rcases k with _ | j
    · go_wp2_with fail
      have HX : Hid (∀ W, Below w.heap.size w W → Kd.C kQ W A 0 (l.take 0)) := Lib.hid fun W hb => C_take' (Kd.C_below HRd.out hb) (by rw [HN.out]; omega)
      go_region_with (first | (go_at_call 94; refine (CloneRat_calls' A cap 0 (l.take 0) (by rw [List.length_take]; have := HN.out; omega) (by omega) _ (HX.out _ (by repeat (first | exact Below.refl _ _ | assumption | exact Hid.out (by assumption) | (with_reducible first | refine bw_drewN ?_ _ | refine bw_alloc ?_ _ | refine bw_drew ?_) | (refine bw_set ?_ (by first | exact Nat.le_refl _ | (simp; done) | (simp; omega) | omega) _))))).mono ?_; rintro e w1 ⟨A', c', rfl, hc', hF, hw1⟩; have HF := Lib.hid hF; clear hF; obtain ⟨hcl, hfr⟩ := bcell hw1; have hz : w.heap.size + 1 < w1.heap.size := (by have := hw1.size; simp at this; omega)))
      all_goals
        go_wp2_with fail
        have hR1 : w1.heap[w.heap.size + 1]? = some (.cells #[.slice none 0 0, .int .i64 0, .int .i64 0] 39 (0, 0)) := blk_below (blk_drew (blk_new' (by simp))) hw1
        refine bodyPost_ret (results_cell_row rfl _ _ (w.heap.size + 1) 39 #[.slice A' 0 c', .int .i64 kn, .int .i64 kd] (0, 0) _ rfl (blk3 hR1) Try.underlying39 rfl (by kernel_rfl)) rfl ?_
        have E : trimS l = l.take 0 := by unfold trimS; rw [HN.out, ← ht.out]; rfl
        have B1 : Below w.heap.size w w1 := bw_then (by repeat (first | exact Below.refl _ _ | assumption | exact Hid.out (by assumption) | (with_reducible first | refine bw_drewN ?_ _ | refine bw_alloc ?_ _ | refine bw_drew ?_) | (refine bw_set ?_ (by first | exact Nat.le_refl _ | (simp; done) | (simp; omega) | omega) _))) hw1
        exact ⟨⟨_, rfl, NewT.put (t := ⟨trimS l, kn, kd⟩) (by rw [E, List.length_take]; have := HN.out; omega) hc' (by rw [E]; exact HF.out) (by simp; try omega) (by simp; try omega)⟩, (by repeat (first | exact Below.refl _ _ | assumption | exact Hid.out (by assumption) | (with_reducible first | refine bw_drewN ?_ _ | refine bw_alloc ?_ _ | refine bw_drew ?_) | (refine bw_set ?_ (by first | exact Nat.le_refl _ | (simp; done) | (simp; omega) | omega) _)))⟩
    · obtain ⟨ad, rfl, c0, c1⟩ := kQ_at (Kd.C_alloc (Kd.C_alloc HRd.out (.cells #[.slice A n cap, .int .i64 kn, .int .i64 kd] 39)) (.cells #[.slice none 0 0, .int .i64 0, .int .i64 0] 39)) j (by rw [HN.out]; omega)
      generalize hq : l.getD j zQ = q at *
      obtain ⟨qn, qd⟩ := q
      have HQ := Lib.hid hq
      clear hq
      dsimp only at c0 c1
      by_cases hz0 : qn = 0
      · subst hz0
        go_wp2_with fail
        go_round
        case rel => exact ⟨j, by omega, by first | rfl | go_num, Lib.hid (by rw [← ht.out]; simp only [trimN]; rw [if_pos (by rw [HQ.out])])⟩
        case measure => simp [intOf]
      · have hzb : (qn == 0) = false := by simpa using hz0
        go_wp2_with fail
        have HX : Hid (∀ W, Below w.heap.size w W → Kd.C kQ W (some ad) (j + 1) (l.take (j + 1))) := Lib.hid fun W hb => C_take' (Kd.C_below HRd.out hb) (by rw [HN.out]; omega)
        go_region_with (first | (go_at_call 94; refine (CloneRat_calls' (some ad) cap (j + 1) (l.take (j + 1)) (by rw [List.length_take]; have := HN.out; omega) (by omega) _ (HX.out _ (by repeat (first | exact Below.refl _ _ | assumption | exact Hid.out (by assumption) | (with_reducible first | refine bw_drewN ?_ _ | refine bw_alloc ?_ _ | refine bw_drew ?_) | (refine bw_set ?_ (by first | exact Nat.le_refl _ | (simp; done) | (simp; omega) | omega) _))))).mono ?_; rintro e w1 ⟨A', c', rfl, hc', hF, hw1⟩; have HF := Lib.hid hF; clear hF; obtain ⟨hcl, hfr⟩ := bcell hw1; have hz : w.heap.size + 1 < w1.heap.size := (by have := hw1.size; simp at this; omega)))
        all_goals
          go_wp2_with fail
          have hR1 : w1.heap[w.heap.size + 1]? = some (.cells #[.slice none 0 0, .int .i64 0, .int .i64 0] 39 (0, 0)) := blk_below (blk_drew (blk_new' (by simp))) hw1
          refine bodyPost_ret (results_cell_row rfl _ _ (w.heap.size + 1) 39 #[.slice A' (j + 1) c', .int .i64 kn, .int .i64 kd] (0, 0) _ rfl (blk3 hR1) Try.underlying39 rfl (by kernel_rfl)) rfl ?_
          have E : trimS l = l.take (j + 1) := by unfold trimS; rw [HN.out, ← ht.out]; congr 1; simp only [trimN]; rw [if_neg (by rw [HQ.out]; exact hz0)]
          have B1 : Below w.heap.size w w1 := bw_then (by repeat (first | exact Below.refl _ _ | assumption | exact Hid.out (by assumption) | (with_reducible first | refine bw_drewN ?_ _ | refine bw_alloc ?_ _ | refine bw_drew ?_) | (refine bw_set ?_ (by first | exact Nat.le_refl _ | (simp; done) | (simp; omega) | omega) _))) hw1
          exact ⟨⟨_, rfl, NewT.put (t := ⟨trimS l, kn, kd⟩) (by rw [E, List.length_take]; have := HN.out; omega) hc' (by rw [E]; exact HF.out) (by simp; try omega) (by simp; try omega)⟩, (by repeat (first | exact Below.refl _ _ | assumption | exact Hid.out (by assumption) | (with_reducible first | refine bw_drewN ?_ _ | refine bw_alloc ?_ _ | refine bw_drew ?_) | (refine bw_set ?_ (by first | exact Nat.le_refl _ | (simp; done) | (simp; omega) | omega) _)))⟩
end Go.Proofs.Ytffpdaejemmgpaa.W
