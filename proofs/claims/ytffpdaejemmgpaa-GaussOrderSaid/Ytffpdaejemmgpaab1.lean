/- This file holds the walks of gauss.Free and of the small functions that the laws of gauss call. -/
import Derived.Test.Ytffpdaejemmgpaaa2
namespace Go.Proofs.Ytffpdaejemmgpaa.W
open Go.RowKit Go.Proofs.YtffpdaejemmgpaaW.PrintWords Go.Proofs.YtffpdaejemmgpaaW.PrintMore
set_option linter.unusedVariables false
set_option linter.unusedSimpArgs false
theorem kI_at {w : World} {A : Option Addr} {n : Nat} {xs : List Int} (h : Kd.C (Kd.int .i64) w A n xs) (i : Nat) (h1 : i < n) : ∃ ad : Addr, A = some ad ∧ w.cell? (ad.add i) = some (.int .i64 (xs.getD i 0)) := by
  obtain ⟨ad, c, e, _, hK, hc0⟩ := Kd.C_get h (0 : Int) (i : Int) (by omega) (by omega)
  rw [Int.toNat_natCast] at hK hc0
  cases hK
  have := hc0 0 _ rfl
  rw [show (Kd.int .i64).sz = 1 from rfl, Nat.mul_one, Nat.add_zero] at this
  exact ⟨ad, e, this⟩
set_option maxHeartbeats 1000000 in
theorem IndexInt_calls (A : Option Addr) (n c : Nat) (xs : List Int) (x : Int) (hn : xs.length = n) (w : World) (hr : Kd.C (Kd.int .i64) w A n xs) :
    Calls Try.prog 70 #[.slice A n c, .int .i64 x] w fun e w' => e = .returned (.int .i64 (idxOf (fun y => x == y) xs)) ∧ w' = w := by
  have hm := hr.2.1
  have HN := Lib.hid hn
  have HRr := Lib.hid hr
  clear hn hr
  go_enter Try.func70, Try.ntmps70
  go_wp2_with fail
  go_loop [8] (fun i => ∃ k : Nat, k ≤ n ∧ i = .int .i64 k ∧ Hid (∀ j (hj : j < xs.length), j < k → (x == xs[j]) = false)) (fun i => n - (intOf i).toNat)
  case atStart => exact ⟨0, by omega, rfl, Lib.hid (fun j _ h => absurd h (by omega))⟩
  case round =>
    obtain ⟨k, hk, rfl, hp⟩ := hrel
    by_cases hlt : k < n
    · obtain ⟨ad, rfl, c0⟩ := kI_at HRr.out k hlt
      have hkx : k < xs.length := by rw [HN.out]; exact hlt
      have hq : xs.getD k 0 = xs[k] := by rw [List.getD_eq_getElem?_getD, List.getElem?_eq_getElem hkx]; rfl
      rw [hq] at c0
      generalize hxq : xs[k] = q at *
      have HX := Lib.hid hxq
      clear hq hxq
      cases hb : (x == q)
      · go_wp2_with fail
        go_round
        case rel =>
          refine ⟨k + 1, by omega, by go_num, Lib.hid (fun j hj h => ?_)⟩
          by_cases e : j = k
          · subst e; rw [HX.out]; exact hb
          · exact hp.out j hj (by omega)
        case measure => simp [intOf]; omega
      · go_wp2_with fail
        go_ret
        refine ⟨ret_int ?_, rfl⟩
        rw [idxOf_some hkx (by rw [HX.out]; exact hb) (fun j hj => hp.out j (by omega) hj)]
    · go_wp2_with fail
      go_ret
      refine ⟨ret_int ?_, rfl⟩
      rw [idxOf_none (fun j hj => hp.out j hj (by have := HN.out; omega))]
set_option maxHeartbeats 1000000 in
theorem ContainsInt_calls (A : Option Addr) (n c : Nat) (xs : List Int) (x : Int) (hn : xs.length = n) (w : World) (hr : Kd.C (Kd.int .i64) w A n xs) :
    Calls Try.prog 41 #[.slice A n c, .int .i64 x] w fun e w' => e = .returned (.bool (xs.any fun y => x == y)) ∧ w' = w := by
  have HI := Lib.hid (IndexInt_calls A n c xs x hn w hr)
  have HA := Lib.hid (idxOf_any (fun y => x == y) xs)
  clear hr hn
  generalize idxOf (fun y => x == y) xs = r at *
  go_enter Try.func41, Try.ntmps41
  go_wp2_with fail
  refine HI.out.mono ?_
  rintro e w1 ⟨rfl, rfl⟩
  go_wp2_with fail
  go_ret
  exact ⟨ret_bool HA.out, rfl⟩
/-- The variables that aren't taken. -/
def freeS (p : List Int) (k : Nat) : List Int := ((List.range k).filter fun v : Nat => !(p.any fun y => (v : Int) == y)).map fun v : Nat => (v : Int)
theorem freeS_succ (p : List Int) (k : Nat) : freeS p (k + 1) = if (p.any fun y => (k : Int) == y) = true then freeS p k else freeS p k ++ [(k : Int)] := by
  unfold freeS
  rw [List.range_succ, List.filter_append]
  by_cases h : (p.any fun y => (k : Int) == y) = true
  · rw [if_pos h]; simp [h]
  · rw [if_neg h]; rw [Bool.not_eq_true] at h; simp [h]
set_option maxRecDepth 8000 in
set_option maxHeartbeats 2000000 in
theorem Free_calls (A : Option Addr) (n c : Nat) (xs : List Int) (hn : xs.length = n) (w : World) (hr : Kd.C (Kd.int .i64) w A n xs) :
    Calls Try.prog 18 #[.slice A n c] w fun e w' => (∃ A' c', e = .returned (.slice A' (freeS xs 8).length c') ∧ Kd.C (Kd.int .i64) w' A' (freeS xs 8).length (freeS xs 8)) ∧ Below w.heap.size w w' := by
  have HC := Lib.hid fun (v : Int) W hb => ContainsInt_calls A n c xs v hn W (Kd.C_below (w1 := W) hr hb)
  clear hr hn
  go_enter Try.func18, Try.ntmps18
  go_wp2_with fail
  go_loopw [3, 5] (fun v i wr => ∃ k : Nat, k ≤ 8 ∧ i = .int .i64 k ∧ Hid (Below w.heap.size w wr) ∧ Hid (Kd.R (Kd.int .i64) 3 wr w.heap.size (fun j => w.heap.size ≤ j) v (freeS xs k))) (fun _ i _ => 8 - (intOf i).toNat)
  case atStart => exact ⟨0, by omega, rfl, Lib.hid (Below.refl _ _), Lib.hid (Kd.R_nil _ _ _ _ _)⟩
  case round =>
    obtain ⟨k, hk, rfl, hB, hR⟩ := hrel
    have hbs := hB.out.size
    by_cases hlt : k < 8
    · have HCk := Lib.hid (HC.out k wr hB.out)
      obtain ⟨b, hb⟩ : ∃ b, (xs.any fun y => (k : Int) == y) = b := ⟨_, rfl⟩
      rw [hb] at HCk
      have hs := freeS_succ xs k
      rw [hb] at hs
      have HS := Lib.hid hs
      have hl8 : (freeS xs k).length ≤ k := by unfold freeS; rw [List.length_map]; exact Nat.le_trans (List.length_filter_le _ _) (by rw [List.length_range]; exact Nat.le_refl _)
      have HL8 := Lib.hid hl8
      generalize freeS xs k = F at *
      clear hb hs hl8
      cases b with
      | true =>
        go_wp2_with fail
        refine (HCk.out).mono ?_
        rintro e w1 ⟨rfl, rfl⟩
        go_wp2_with fail
        go_roundw
        case rel => exact ⟨k + 1, by omega, by go_num, hB, Lib.hid (by rw [HS.out, if_pos trivial]; exact hR.out)⟩
        case measure => simp [intOf]; omega
      | false =>
        go_wp2_with fail
        refine (HCk.out).mono ?_
        rintro e w1 ⟨rfl, rfl⟩
        go_wp2_with (at_builtin; refine Kd.R_append (Kd.int .i64) (w0 := w) w.heap.size rfl (.tmp 12) (.tmp 14) 26 3 (.int .i64 0) 8 rfl Try.underlying26 infoInt rfl (by decide) (by omega) _ F (k : Int) [.int .i64 k] (fun j => w.heap.size ≤ j) (fun _ => False) rfl (by first | (go_simp; done) | (go_simp; rfl) | (simp; done)) rfl (fun _ h => h.elim) (fun j hj => by omega) hR.out hB.out hB.out.size ?hl ?_; (case hl => have := HL8.out; omega); intro v2 w2 ho2 hb2 hg2 hn2; have HO2 := Lib.hid ho2; have HB2 := Lib.hid hb2; clear ho2 hb2 hg2 hn2)
        go_roundw
        case rel => exact ⟨k + 1, by omega, by go_num, HB2, Lib.hid (by rw [HS.out, if_neg (by simp)]; exact HO2.out)⟩
        case measure => simp [intOf]; omega
    · obtain rfl : k = 8 := by omega
      obtain ⟨A', c', rfl, hc', hC'⟩ := Kd.R_reads hR.out
      have HH := Lib.hid hC'
      clear hC'
      go_wp2_with fail
      go_ret
      exact ⟨⟨A', c', rfl, HH.out⟩, hB.out⟩
set_option maxHeartbeats 1000000 in
theorem Small_calls (t : T) (B : Option Addr) (m c : Nat) (w : World) :
    Calls Try.prog 24 #[.agg #[.slice B m c, .int .i64 t.k.n, .int .i64 t.k.d]] w fun e w' => e = .returned (.bool (decide (m ≤ 12))) ∧ Below w.heap.size w w' := by
  obtain ⟨l, kn, kd⟩ := t
  dsimp only
  have hh : decide ((m : Int) ≤ 12) = decide (m ≤ 12) := by simp only [decide_eq_decide]; omega
  have H := Lib.hid hh
  clear hh
  go_enter Try.func24, Try.ntmps24
  go_wp2_with fail
  go_ret
  exact ⟨ret_bool H.out, (by repeat (first | exact Below.refl _ _ | assumption | exact Hid.out (by assumption) | (with_reducible first | refine bw_drewN ?_ _ | refine bw_alloc ?_ _ | refine bw_drew ?_) | (refine bw_set ?_ (by first | exact Nat.le_refl _ | (simp; done) | (simp; omega) | omega) _)))⟩
set_option maxHeartbeats 1000000 in
theorem zero2_calls (w : World) : Calls Try.prog 43 #[] w fun e w' => e = .returned (.agg #[.int .i64 0, .int .i64 1]) ∧ Below w.heap.size w w' := by
  go_enter Try.func43, Try.ntmps43
  go_wp2
  refine bodyPost_ret (results_cell_row rfl _ _ w.heap.size 36 #[.int .i64 0, .int .i64 1] (0, 0) _ rfl (blk_new _ _) Try.underlying36 rfl (by kernel_rfl)) rfl ?_
  exact ⟨rfl, (by repeat (first | exact Below.refl _ _ | assumption | exact Hid.out (by assumption) | (with_reducible first | refine bw_drewN ?_ _ | refine bw_alloc ?_ _ | refine bw_drew ?_) | (refine bw_set ?_ (by first | exact Nat.le_refl _ | (simp; done) | (simp; omega) | omega) _)))⟩
/-- ref02.At is term.At. -/
theorem atT_out {t : T} {i : Int} (h : i < 0 ∨ (t.c.length : Int) ≤ i) : atT t i = ⟨0, 1⟩ := by
  unfold atT
  split
  · rfl
  · rw [List.getD_eq_getElem?_getD, List.getElem?_eq_none (by omega)]; rfl
set_option maxHeartbeats 2000000 in
theorem At2_calls (t : T) (A : Option Addr) (cap n : Nat) (hn : t.c.length = n) (i : Int) (w : World) (hr : Kd.C kQ w A n t.c) :
    Calls Try.prog 21 #[.agg #[.slice A n cap, .int .i64 t.k.n, .int .i64 t.k.d], .int .i64 i] w fun e w' => e = .returned (.agg #[.int .i64 (atT t i).n, .int .i64 (atT t i).d]) ∧ Below w.heap.size w w' := by
  by_cases hi : 0 ≤ i ∧ i < n
  · obtain ⟨j, rfl⟩ := Int.eq_ofNat_of_zero_le hi.1
    have hj : j < n := by omega
    have HK : Hid (∀ W, Below w.heap.size w W → ∃ ad, A = some ad ∧ W.cell? (ad.add (j * 2)) = some (.int .i64 (t.c.getD j zQ).n) ∧ W.cell? ⟨(ad.add (j * 2)).block, (ad.add (j * 2)).off + 1, none⟩ = some (.int .i64 (t.c.getD j zQ).d)) := Lib.hid fun W hb => kQ_at (Kd.C_below hr hb) j hj
    have e : atT t j = t.c.getD j zQ := by rw [atT_nat, List.getD_eq_getElem?_getD, List.getD_eq_getElem?_getD, List.getElem?_eq_getElem (by omega)]; rfl
    rw [e]
    obtain ⟨l, kn, kd⟩ := t
    dsimp only at *
    generalize l.getD j zQ = q at *
    obtain ⟨qn, qd⟩ := q
    obtain ⟨ad, rfl, c0, c1⟩ := HK.out ((w.alloc (.cells #[.slice A n cap, .int .i64 kn, .int .i64 kd] 39)).alloc (.cells #[.int .i64 0, .int .i64 0] 36)) (by repeat (first | exact Below.refl _ _ | assumption | exact Hid.out (by assumption) | (with_reducible first | refine bw_drewN ?_ _ | refine bw_alloc ?_ _ | refine bw_drew ?_) | (refine bw_set ?_ (by first | exact Nat.le_refl _ | (simp; done) | (simp; omega) | omega) _)))
    have h0 : (j : Int) < n := by omega
    have h1 : ¬ (j : Int) < 0 := by omega
    have h2 : ¬ (n : Int) ≤ (j : Int) := by omega
    have d1 : decide ((j : Int) < 0) = false := by simp
    have d2 : decide (n ≤ j) = false := by simp; omega
    clear hn hr e hi
    go_enter Try.func21, Try.ntmps21
    go_wp2_with fail
    refine bodyPost_ret (results_cell_row rfl _ _ (w.heap.size + 1) 36 #[.int .i64 qn, .int .i64 qd] (0, 0) _ rfl (blk_new' (by simp)) Try.underlying36 rfl (by kernel_rfl)) rfl ?_
    exact ⟨rfl, (by repeat (first | exact Below.refl _ _ | assumption | exact Hid.out (by assumption) | (with_reducible first | refine bw_drewN ?_ _ | refine bw_alloc ?_ _ | refine bw_drew ?_) | (refine bw_set ?_ (by first | exact Nat.le_refl _ | (simp; done) | (simp; omega) | omega) _)))⟩
  · have e : atT t i = ⟨0, 1⟩ := atT_out (by omega)
    rw [e]
    obtain ⟨l, kn, kd⟩ := t
    dsimp only at *
    clear hr e hn
    by_cases h0 : i < 0
    · go_enter Try.func21, Try.ntmps21
      go_wp2_with fail
      refine (zero2_calls _).mono ?_
      rintro e w1 ⟨rfl, hw1⟩
      have hR1 : w1.heap[w.heap.size + 1]? = some (.cells #[.int .i64 0, .int .i64 0] 36 (0, 0)) := blk_below (blk_new' (by simp)) hw1
      have B1 : Below w.heap.size w w1 := bw_then (by repeat (first | exact Below.refl _ _ | assumption | exact Hid.out (by assumption) | (with_reducible first | refine bw_drewN ?_ _ | refine bw_alloc ?_ _ | refine bw_drew ?_) | (refine bw_set ?_ (by first | exact Nat.le_refl _ | (simp; done) | (simp; omega) | omega) _))) hw1
      have hR1_c0 : w1.cell? ⟨w.heap.size + 1, 0, none⟩ = some (.int .i64 0) := blk_cell hR1 0; have hR1_f0 : w1.frozen? ⟨w.heap.size + 1, 0, none⟩ = false := blk_frozen hR1 0; have hR1_c1 : w1.cell? ⟨w.heap.size + 1, 1, none⟩ = some (.int .i64 0) := blk_cell hR1 1; have hR1_f1 : w1.frozen? ⟨w.heap.size + 1, 1, none⟩ = false := blk_frozen hR1 1
      go_wp2_with fail
      refine bodyPost_ret (results_cell_row rfl _ _ (w.heap.size + 1) 36 #[.int .i64 0, .int .i64 1] (0, 0) _ rfl (blk2 hR1) Try.underlying36 rfl (by kernel_rfl)) rfl ?_
      exact ⟨rfl, (by repeat (first | exact Below.refl _ _ | assumption | exact Hid.out (by assumption) | (with_reducible first | refine bw_drewN ?_ _ | refine bw_alloc ?_ _ | refine bw_drew ?_) | (refine bw_set ?_ (by first | exact Nat.le_refl _ | (simp; done) | (simp; omega) | omega) _)))⟩
    · have h1 : (n : Int) ≤ i := by omega
      go_enter Try.func21, Try.ntmps21
      go_wp2_with fail
      refine (zero2_calls _).mono ?_
      rintro e w1 ⟨rfl, hw1⟩
      have hR1 : w1.heap[w.heap.size + 1]? = some (.cells #[.int .i64 0, .int .i64 0] 36 (0, 0)) := blk_below (blk_new' (by simp)) hw1
      have B1 : Below w.heap.size w w1 := bw_then (by repeat (first | exact Below.refl _ _ | assumption | exact Hid.out (by assumption) | (with_reducible first | refine bw_drewN ?_ _ | refine bw_alloc ?_ _ | refine bw_drew ?_) | (refine bw_set ?_ (by first | exact Nat.le_refl _ | (simp; done) | (simp; omega) | omega) _))) hw1
      have hR1_c0 : w1.cell? ⟨w.heap.size + 1, 0, none⟩ = some (.int .i64 0) := blk_cell hR1 0; have hR1_f0 : w1.frozen? ⟨w.heap.size + 1, 0, none⟩ = false := blk_frozen hR1 0; have hR1_c1 : w1.cell? ⟨w.heap.size + 1, 1, none⟩ = some (.int .i64 0) := blk_cell hR1 1; have hR1_f1 : w1.frozen? ⟨w.heap.size + 1, 1, none⟩ = false := blk_frozen hR1 1
      go_wp2_with fail
      refine bodyPost_ret (results_cell_row rfl _ _ (w.heap.size + 1) 36 #[.int .i64 0, .int .i64 1] (0, 0) _ rfl (blk2 hR1) Try.underlying36 rfl (by kernel_rfl)) rfl ?_
      exact ⟨rfl, (by repeat (first | exact Below.refl _ _ | assumption | exact Hid.out (by assumption) | (with_reducible first | refine bw_drewN ?_ _ | refine bw_alloc ?_ _ | refine bw_drew ?_) | (refine bw_set ?_ (by first | exact Nat.le_refl _ | (simp; done) | (simp; omega) | omega) _)))⟩
/-- Aren't there too many? -/
def smallS (l : List T) : Bool := (l.all fun t => decide (t.c.length ≤ 12)) && decide (l.length ≤ 12)
set_option maxHeartbeats 2000000 in
theorem small_calls (A : Option Addr) (n c : Nat) (xs : List T) (hn : xs.length = n) (w : World) (hr : Kd.C kT w A n xs) :
    Calls Try.prog 15 #[.slice A n c] w fun e w' => e = .returned (.bool (smallS xs)) ∧ Below w.heap.size w w' := by
  have hm := hr.2.1
  have HN := Lib.hid hn
  have HRr := Lib.hid hr
  clear hn hr
  go_enter Try.func15, Try.ntmps15
  go_wp2_with fail
  go_loopw [3] (fun i wr => ∃ k : Nat, k ≤ n ∧ i = .int .i64 k ∧ Hid (∀ j (hj : j < xs.length), j < k → xs[j].c.length ≤ 12) ∧ Hid (Below w.heap.size w wr)) (fun i _ => n - (intOf i).toNat)
  case atStart => exact ⟨0, by omega, rfl, Lib.hid (fun j _ h => absurd h (by omega)), Lib.hid (Below.refl _ _)⟩
  case round =>
    obtain ⟨k, hk, rfl, hp, hB⟩ := hrel
    by_cases hlt : k < n
    · obtain ⟨ad, B, m, cc, rfl, c0, c1, c2, hmm, _, hC⟩ := kT_at (Kd.C_below HRr.out hB.out) k hlt
      have hkx : k < xs.length := by rw [HN.out]; exact hlt
      have hq : xs.getD k zT = xs[k] := by rw [List.getD_eq_getElem?_getD, List.getElem?_eq_getElem hkx]; rfl
      rw [hq] at c1 c2 hmm hC
      have HKX := Lib.hid hmm
      have HS := Lib.hid fun W => Small_calls xs[k] B m cc W
      obtain ⟨⟨kn, kd⟩, hkk⟩ : ∃ q, xs[k].k = q := ⟨_, rfl⟩
      rw [hkk] at c1 c2 HS
      dsimp only at c1 c2 HS
      clear hq hmm hC hkk
      by_cases h12 : m ≤ 12
      · have d : decide (m ≤ 12) = true := by simp [h12]
        rw [d] at HS
        clear d
        go_wp2_with fail
        refine (HS.out _).mono ?_
        rintro e w1 ⟨rfl, hw1⟩
        have B1 := Lib.hid (bw_then hB.out hw1)
        go_wp2_with fail
        go_roundw
        case rel =>
          refine ⟨k + 1, by omega, by go_num, Lib.hid (fun j hj h => ?_), B1⟩
          by_cases e : j = k
          · subst e; rw [HKX.out]; exact h12
          · exact hp.out j hj (by omega)
        case measure => simp [intOf]; omega
      · have d : decide (m ≤ 12) = false := by simp; omega
        rw [d] at HS
        clear d
        go_wp2_with fail
        refine (HS.out _).mono ?_
        rintro e w1 ⟨rfl, hw1⟩
        have B1 := Lib.hid (bw_then hB.out hw1)
        go_wp2_with fail
        go_ret
        refine ⟨ret_bool ?_, B1.out⟩
        have : (xs.all fun t => decide (t.c.length ≤ 12)) = false := by
          rw [List.all_eq_false]
          exact ⟨xs[k], List.getElem_mem hkx, by rw [HKX.out]; simp; omega⟩
        rw [smallS, this]; rfl
    · obtain rfl : k = n := by omega
      go_wp2_with fail
      go_ret
      refine ⟨ret_bool ?_, hB.out⟩
      have h1 : (xs.all fun t => decide (t.c.length ≤ 12)) = true := by
        rw [List.all_eq_true]
        intro t ht
        obtain ⟨j, hj, rfl⟩ := List.getElem_of_mem ht
        have := hp.out j hj (by have := HN.out; omega)
        simpa using this
      rw [smallS, h1, HN.out, Bool.true_and]
      simp only [decide_eq_decide]; omega
end Go.Proofs.Ytffpdaejemmgpaa.W
