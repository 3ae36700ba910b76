/- This file holds the walk of term.each. -/
import Derived.Test.YtffpdaejemmgpaaM
namespace Go.Proofs.Ytffpdaejemmgpaa.W
open Go.RowKit Go.Proofs.YtffpdaejemmgpaaW.PrintWords Go.Proofs.YtffpdaejemmgpaaW.PrintMore
set_option linter.unusedVariables false
set_option linter.unusedSimpArgs false
/-- What term.each answers. -/
def eachS (n : Nat) (f : Int → Q × Int) : T × Int :=
  match (List.range (n + 1)).find? (fun j : Nat => (f ((j : Int) - 1)).2 != 0) with
  | some j => (⟨[], ⟨0, 0⟩⟩, (f ((j : Int) - 1)).2)
  | none => (⟨trimS ((List.range n).map fun i : Nat => (f (i : Int)).1), (f (-1)).1⟩, 0)
/-- After k rounds: no error yet; the variable's block. -/
structure EachR (f : Int → Q × Int) (n : Nat) (w : World) (k : Nat) (wr : World) : Prop where
  ok : ∀ j : Nat, j < k → (f ((j : Int) - 1)).2 = 0
  bel : Below w.heap.size w wr
  res : wr.heap[w.heap.size]? = some (.cells #[.slice none 0 0, .int .i64 0, .int .i64 0] 39 (0, 0))
  size : w.heap.size + 2 ≤ wr.heap.size
  var : ∃ v, wr.heap[w.heap.size + 1]? = some (.cells #[v, .int .i64 (if k = 0 then 0 else (f (-1)).1.n), .int .i64 (if k = 0 then 0 else (f (-1)).1.d)] 39 (0, 0)) ∧
    kQ.R 36 wr w.heap.size (fun g => w.heap.size + 2 ≤ g) v ((List.range (k - 1)).map fun i : Nat => (f (i : Int)).1)
theorem EachR.start (f : Int → Q × Int) (n : Nat) (w : World) : EachR f n w 0 ((w.alloc (.cells #[.slice none 0 0, .int .i64 0, .int .i64 0] 39)).alloc (.cells #[.slice none 0 0, .int .i64 0, .int .i64 0] 39)) :=
  ⟨fun j h => absurd h (by omega), (by repeat (first | exact Below.refl _ _ | assumption | exact Hid.out (by assumption) | (with_reducible first | refine bw_drewN ?_ _ | refine bw_alloc ?_ _ | refine bw_drew ?_) | (refine bw_set ?_ (by first | exact Nat.le_refl _ | (simp; done) | (simp; omega) | omega) _))), blk_alloc (blk_new _ _) _, by simp, _, (blk_new' (by simp)), Kd.R_nil _ _ _ _ _⟩
theorem eachS_err {n k : Nat} {f : Int → Q × Int} (hk : k < n + 1) (ok : ∀ j : Nat, j < k → (f ((j : Int) - 1)).2 = 0) (he : (f ((k : Int) - 1)).2 ≠ 0) : eachS n f = (⟨[], ⟨0, 0⟩⟩, (f ((k : Int) - 1)).2) := by
  have : (List.range (n + 1)).find? (fun j : Nat => (f ((j : Int) - 1)).2 != 0) = some k := by
    rw [List.find?_range_eq_some]
    exact ⟨by simpa using he, by simpa using hk, fun j hj => by simpa using ok j hj⟩
  unfold eachS
  rw [this]
theorem eachS_ok {n : Nat} {f : Int → Q × Int} (ok : ∀ j : Nat, j < n + 1 → (f ((j : Int) - 1)).2 = 0) : eachS n f = (⟨trimS ((List.range n).map fun i : Nat => (f (i : Int)).1), (f (-1)).1⟩, 0) := by
  have : (List.range (n + 1)).find? (fun j : Nat => (f ((j : Int) - 1)).2 != 0) = none := by
    rw [List.find?_eq_none]
    intro j hj
    have := ok j (by simpa using hj)
    simp [this]
  unfold eachS
  rw [this]
theorem trim_calls' (t : T) (A : Option Addr) (cap n : Nat) (hn : t.c.length = n) (hl : n ≤ 1000000) (hcap : n ≤ cap) (w : World) (hr : Kd.C kQ w A t.c.length t.c) :
    Calls Try.prog 61 #[.agg #[.slice A n cap, .int .i64 t.k.n, .int .i64 t.k.d]] w fun e w' => ∃ (A' : Option Addr) (c' m : Nat), e = .returned (.agg #[.slice A' m c', .int .i64 t.k.n, .int .i64 t.k.d]) ∧ (trimS t.c).length = m ∧ m ≤ c' ∧ Kd.F kQ w' (fun k => w.heap.size ≤ k) A' m (trimS t.c) ∧ Below w.heap.size w w' := by
  subst hn
  exact (trim_calls t A cap hl hcap w hr).mono fun e w' ⟨⟨v, he, A', c', hv, hc, hf⟩, hb⟩ => ⟨A', c', _, by rw [he, hv], rfl, hc, hf, hb⟩
theorem EachR.first {f : Int → Q × Int} {n : Nat} {w w1 : World} {xn xd : Int} {v : Value} (hf : f (-1) = (⟨xn, xd⟩, 0)) (B1 : Below w.heap.size w w1) (R1 : w1.heap[w.heap.size]? = some (.cells #[.slice none 0 0, .int .i64 0, .int .i64 0] 39 (0, 0))) (S1 : w.heap.size + 2 ≤ w1.heap.size)
    (V1 : w1.heap[w.heap.size + 1]? = some (.cells #[v, .int .i64 0, .int .i64 0] 39 (0, 0))) (O1 : kQ.R 36 w1 w.heap.size (fun g => w.heap.size + 2 ≤ g) v []) (o : Obj) :
    EachR f n w 1 (((w1.setCell ⟨w.heap.size + 1, 1, none⟩ (.int .i64 xn)).setCell ⟨w.heap.size + 1, 2, none⟩ (.int .i64 xd)).alloc o) :=
  ⟨fun j hj => by obtain rfl : j = 0 := by omega
                  simp [hf], bw_alloc (bw_set (bw_set B1 (by simp) _) (by simp) _) _, blk_alloc (blk_far (blk_far R1 (by simp) _) (by simp) _) _, by simp; omega,
    v, blk_alloc (by rw [if_neg (by omega), if_neg (by omega), hf]; exact blk_set (blk_set V1 1 _) 2 _) _, Kd.R_alloc (Kd.R_far (Kd.R_far O1 (fun k hk => by dsimp only at hk ⊢; omega) _) (fun k hk => by dsimp only at hk ⊢; omega) _) _⟩
theorem EachR.next {f : Int → Q × Int} {n k : Nat} {w w2 : World} {kn kd : Int} {v v2 : Value} (ok : ∀ j : Nat, j < k + 1 → (f ((j : Int) - 1)).2 = 0) (hf : (f ((k : Int) + 1 - 1)).2 = 0) (hk0 : kn = (f (-1)).1.n) (hk1 : kd = (f (-1)).1.d) (B2 : Below w.heap.size w w2) (R2 : w2.heap[w.heap.size]? = some (.cells #[.slice none 0 0, .int .i64 0, .int .i64 0] 39 (0, 0))) (S2 : w.heap.size + 2 ≤ w2.heap.size)
    (V2 : w2.heap[w.heap.size + 1]? = some (.cells #[v, .int .i64 kn, .int .i64 kd] 39 (0, 0))) (O2 : kQ.R 36 w2 w.heap.size (fun g => w.heap.size + 2 ≤ g) v2 (((List.range k).map fun i : Nat => (f (i : Int)).1) ++ [(f (k : Int)).1])) :
    EachR f n w (k + 1 + 1) (w2.setCell ⟨w.heap.size + 1, 0, none⟩ v2) := by
  refine ⟨fun j hj => ?_, bw_set B2 (by simp) _, blk_far R2 (by simp) _, by simp; omega, v2, ?_, ?_⟩
  · by_cases e : j = k + 1
    · subst e; push_cast; exact hf
    · exact ok j (by omega)
  · rw [if_neg (by omega), if_neg (by omega), ← hk0, ← hk1]; exact blk_set V2 0 _
  · have e : ((List.range (k + 1 + 1 - 1)).map fun i : Nat => (f (i : Int)).1) = ((List.range k).map fun i : Nat => (f (i : Int)).1) ++ [(f (k : Int)).1] := by
      rw [show k + 1 + 1 - 1 = k + 1 by omega, List.range_succ, List.map_append]; rfl
    rw [e]
    exact Kd.R_far O2 (fun k hk => by dsimp only at hk ⊢; omega) _
set_option maxHeartbeats 4000000 in
theorem eachScale_calls (n : Nat) (hn : n ≤ 1000) (f : Int → Q × Int) (b1 b2 : Nat) (w : World)
    (HF : Hid (∀ i : Int, -1 ≤ i → i < n → ∀ W, Below w.heap.size w W → Calls Try.prog 84 #[.int .i64 i, .pointer (some ⟨b1, 0, none⟩), .pointer (some ⟨b2, 0, none⟩)] W fun e w' => e = qe (f i) ∧ Below W.heap.size W w')) :
    Calls Try.prog 83 #[.int .i64 n, .func (.func 84) #[] #[.pointer (some ⟨b1, 0, none⟩), .pointer (some ⟨b2, 0, none⟩)]] w fun e w' => ∃ v, e = .returned (.tuple #[v, .int .i64 (eachS n f).2]) ∧ NewT w w' v (eachS n f).1 ∧ Below w.heap.size w w' := by
  go_enter Try.func83, Try.ntmps83
  go_wp2_with fail
  go_loopw [12] (fun i wr => ∃ k : Nat, k ≤ n + 1 ∧ i = .int .i64 k ∧ Hid (EachR f n w k wr)) (fun i _ => n + 1 - (intOf i).toNat)
  case atStart => exact ⟨0, by omega, rfl, Lib.hid (EachR.start f n w)⟩
  case round =>
    obtain ⟨k, hk, rfl, hR⟩ := hrel
    by_cases hlt : k < n + 1
    · have hB := hR.out.bel
      go_wp2_with fail
      obtain ⟨⟨⟨xn, xd⟩, xe⟩, hf⟩ : ∃ r, f ((k : Int) - 1) = r := ⟨_, rfl⟩
      refine (qe_calls (HF.out _ (by omega) (by omega) _ hB) hf).mono ?_
      rintro e w1 ⟨rfl, hw1⟩
      have HFk := Lib.hid hf
      clear hf
      have B1 : Below w.heap.size w w1 := bw_then hB hw1
      have R1 := blk_below hR.out.res hw1
      have S1 : w.heap.size + 2 ≤ w1.heap.size := Nat.le_trans hR.out.size hw1.size
      have hz0 : w.heap.size < w1.heap.size := by omega
      have hz1 : w.heap.size + 1 < w1.heap.size := by omega
      have R1_c0 : w1.cell? ⟨w.heap.size, 0, none⟩ = some (.slice none 0 0) := blk_cell R1 0; have R1_f0 : w1.frozen? ⟨w.heap.size, 0, none⟩ = false := blk_frozen R1 0; have R1_c1 : w1.cell? ⟨w.heap.size, 1, none⟩ = some (.int .i64 0) := blk_cell R1 1; have R1_f1 : w1.frozen? ⟨w.heap.size, 1, none⟩ = false := blk_frozen R1 1; have R1_c2 : w1.cell? ⟨w.heap.size, 2, none⟩ = some (.int .i64 0) := blk_cell R1 2; have R1_f2 : w1.frozen? ⟨w.heap.size, 2, none⟩ = false := blk_frozen R1 2
      by_cases he : xe = 0
      · subst he
        obtain ⟨v, hv, hown⟩ := hR.out.var
        have V1 := blk_below hv hw1
        have O1 := Lib.hid (Kd.R_below hown hw1)
        clear hv hown
        rcases k with _ | k
        · have V1_c0 : w1.cell? ⟨w.heap.size + 1, 0, none⟩ = some (v) := blk_cell V1 0; have V1_f0 : w1.frozen? ⟨w.heap.size + 1, 0, none⟩ = false := blk_frozen V1 0; have V1_c1 : w1.cell? ⟨w.heap.size + 1, 1, none⟩ = some (.int .i64 0) := blk_cell V1 1; have V1_f1 : w1.frozen? ⟨w.heap.size + 1, 1, none⟩ = false := blk_frozen V1 1; have V1_c2 : w1.cell? ⟨w.heap.size + 1, 2, none⟩ = some (.int .i64 0) := blk_cell V1 2; have V1_f2 : w1.frozen? ⟨w.heap.size + 1, 2, none⟩ = false := blk_frozen V1 2
          go_wp2_with fail
          go_roundw
          case rel => exact ⟨1, by omega, rfl, Lib.hid (EachR.first (by simpa using HFk.out) B1 R1 S1 V1 O1.out _)⟩
          case measure => simp [intOf] <;> omega
        · obtain ⟨kn, hkn⟩ : ∃ z, (if k + 1 = 0 then 0 else (f (-1)).1.n) = z := ⟨_, rfl⟩
          obtain ⟨kd, hkd⟩ : ∃ z, (if k + 1 = 0 then 0 else (f (-1)).1.d) = z := ⟨_, rfl⟩
          rw [hkn, hkd] at V1
          rw [if_neg (by omega)] at hkn hkd
          have HKN := Lib.hid hkn
          have HKD := Lib.hid hkd
          clear hkn hkd
          have O1' := Lib.hid (show kQ.R 36 w1 w.heap.size (fun g => w.heap.size + 2 ≤ g) v ((List.range k).map fun i : Nat => (f (i : Int)).1) from O1.out)
          clear O1
          have kb : (((k : Int) + 1) == 0) = false := by simp; omega
          have V1_c0 : w1.cell? ⟨w.heap.size + 1, 0, none⟩ = some (v) := blk_cell V1 0; have V1_f0 : w1.frozen? ⟨w.heap.size + 1, 0, none⟩ = false := blk_frozen V1 0; have V1_c1 : w1.cell? ⟨w.heap.size + 1, 1, none⟩ = some (.int .i64 kn) := blk_cell V1 1; have V1_f1 : w1.frozen? ⟨w.heap.size + 1, 1, none⟩ = false := blk_frozen V1 1; have V1_c2 : w1.cell? ⟨w.heap.size + 1, 2, none⟩ = some (.int .i64 kd) := blk_cell V1 2; have V1_f2 : w1.frozen? ⟨w.heap.size + 1, 2, none⟩ = false := blk_frozen V1 2
          go_wp2_with (at_builtin; go_loud (refine Kd.R_append kQ (w0 := w) w.heap.size rfl (.tmp 31) (.tmp 33) 23 36 (.agg #[.int .i64 0, .int .i64 0]) 16 rfl Try.underlying23 infoRat rfl (by decide) (by omega) v _ ⟨xn, xd⟩ [.int .i64 xn, .int .i64 xd] (fun g => w.heap.size + 2 ≤ g) (fun _ => False) rfl (by first | (go_simp; done) | (go_simp; rfl) | (simp; done)) (kQ_mkM _ _ _ ⟨xn, xd⟩) (fun _ h => h.elim) (fun g hg => by simp at hg; omega) (Kd.R_alloc O1'.out _) (bw_alloc B1 _) (by simp; omega) (by simp; omega) ?_); intro v2 w2 ho2 hb2 hg2 hn2; obtain ⟨A2, c2, rfl, _⟩ := Kd.R_reads ho2; have O2 := Lib.hid ho2; have B2 := Lib.hid hb2; have V2 := blk_grown (blk_alloc V1 _) hg2 (fun e => by have := O1'.out.1 _ e.symm; omega); have R2 := blk_grown (blk_alloc R1 _) hg2 (fun e => by have := O1'.out.1 _ e.symm; omega); have hz2 : w.heap.size + 1 < w2.heap.size := (by have := hg2.size; simp at this; omega); have V2_c0 : w2.cell? ⟨w.heap.size + 1, 0, none⟩ = some (v) := blk_cell V2 0; have V2_f0 : w2.frozen? ⟨w.heap.size + 1, 0, none⟩ = false := blk_frozen V2 0; have V2_c1 : w2.cell? ⟨w.heap.size + 1, 1, none⟩ = some (.int .i64 kn) := blk_cell V2 1; have V2_f1 : w2.frozen? ⟨w.heap.size + 1, 1, none⟩ = false := blk_frozen V2 1; have V2_c2 : w2.cell? ⟨w.heap.size + 1, 2, none⟩ = some (.int .i64 kd) := blk_cell V2 2; have V2_f2 : w2.frozen? ⟨w.heap.size + 1, 2, none⟩ = false := blk_frozen V2 2; clear ho2 hb2 hg2 hn2)
          go_roundw
          case rel => exact ⟨k + 1 + 1, by omega, by go_num, Lib.hid (EachR.next hR.out.ok (by have := HFk.out; push_cast at this; rw [this]) HKN.out.symm HKD.out.symm B2.out R2 (by omega) V2 (by have := HFk.out; rw [show (((k + 1 : Nat) : Int) - 1) = (k : Int) by omega] at this; rw [this]; have h := O2.out; simp only [List.length_append, List.length_map, List.length_range, List.length_cons, List.length_nil, Nat.zero_add] at h; exact h))⟩
          case measure => simp [intOf] <;> omega
      · have heb : (xe != 0) = true := by simpa using he
        go_wp2_with fail
        refine bodyPost_ret (results_ct rfl _ _ w.heap.size 39 #[.slice none 0 0, .int .i64 0, .int .i64 0] (0, 0) _ rfl (blk_alloc (blk3 R1) _) Try.underlying39 rfl (by kernel_rfl)) rfl ?_
        have E := eachS_err hlt hR.out.ok (by rw [HFk.out]; exact he)
        rw [HFk.out] at E
        rw [E]
        exact ⟨_, rfl, ⟨none, 0, rfl, Nat.le_refl _, Kd.F_nil _ _ _⟩, (by repeat (first | exact Below.refl _ _ | assumption | exact Hid.out (by assumption) | (with_reducible first | refine bw_drewN ?_ _ | refine bw_alloc ?_ _ | refine bw_drew ?_) | (refine bw_set ?_ (by first | exact Nat.le_refl _ | (simp; done) | (simp; omega) | omega) _)))⟩
    · obtain rfl : k = n + 1 := by omega
      obtain ⟨v, hv, hown⟩ := hR.out.var
      obtain ⟨A0, c0, rfl, hc0, hrd⟩ := Kd.R_reads hown
      have hlen : ((List.range (n + 1 - 1)).map fun i : Nat => (f (i : Int)).1).length = n := by simp
      have E := eachS_ok hR.out.ok
      obtain ⟨ls, hls⟩ : ∃ l, ((List.range (n + 1 - 1)).map fun i : Nat => (f (i : Int)).1) = l := ⟨_, rfl⟩
      rw [show ((List.range n).map fun i : Nat => (f (i : Int)).1) = ls from hls] at E
      rw [hls] at hlen hrd hv hc0
      have HE := Lib.hid E
      have HLS := Lib.hid hlen
      obtain ⟨kn, hkn⟩ : ∃ z, (if n + 1 = 0 then 0 else (f (-1)).1.n) = z := ⟨_, rfl⟩
      obtain ⟨kd, hkd⟩ : ∃ z, (if n + 1 = 0 then 0 else (f (-1)).1.d) = z := ⟨_, rfl⟩
      rw [hkn, hkd, hlen] at hv
      rw [if_neg (by omega)] at hkn hkd
      have HK : Hid ((f (-1)).1 = ⟨kn, kd⟩) := Lib.hid (by rw [← hkn, ← hkd])
      rw [hlen] at hrd hc0
      have HRD := Lib.hid hrd
      have hB := hR.out.bel
      have R1 := hR.out.res
      have hz1 : w.heap.size + 1 < wr.heap.size := hR.out.size
      clear E hls hlen hrd hown hkn hkd
      have hv_c0 : wr.cell? ⟨w.heap.size + 1, 0, none⟩ = some (.slice A0 n c0) := blk_cell hv 0; have hv_f0 : wr.frozen? ⟨w.heap.size + 1, 0, none⟩ = false := blk_frozen hv 0; have hv_c1 : wr.cell? ⟨w.heap.size + 1, 1, none⟩ = some (.int .i64 kn) := blk_cell hv 1; have hv_f1 : wr.frozen? ⟨w.heap.size + 1, 1, none⟩ = false := blk_frozen hv 1; have hv_c2 : wr.cell? ⟨w.heap.size + 1, 2, none⟩ = some (.int .i64 kd) := blk_cell hv 2; have hv_f2 : wr.frozen? ⟨w.heap.size + 1, 2, none⟩ = false := blk_frozen hv 2
      go_wp2_with fail
      refine (trim_calls' ⟨ls, kn, kd⟩ A0 c0 n HLS.out (by omega) hc0 _ (by have h := HRD.out; rw [← HLS.out] at h; exact h)).mono ?_
      rintro e w1 ⟨A3, c3, m, rfl, hm, hc3, hF, hw1⟩
      have HM := Lib.hid hm
      have HF3 := Lib.hid hF
      have B1 : Below w.heap.size w w1 := bw_then hB hw1
      have R2 := blk_below R1 hw1
      have R2_c0 : w1.cell? ⟨w.heap.size, 0, none⟩ = some (.slice none 0 0) := blk_cell R2 0; have R2_f0 : w1.frozen? ⟨w.heap.size, 0, none⟩ = false := blk_frozen R2 0; have R2_c1 : w1.cell? ⟨w.heap.size, 1, none⟩ = some (.int .i64 0) := blk_cell R2 1; have R2_f1 : w1.frozen? ⟨w.heap.size, 1, none⟩ = false := blk_frozen R2 1; have R2_c2 : w1.cell? ⟨w.heap.size, 2, none⟩ = some (.int .i64 0) := blk_cell R2 2; have R2_f2 : w1.frozen? ⟨w.heap.size, 2, none⟩ = false := blk_frozen R2 2
      have hz2 : w.heap.size + 1 < w1.heap.size := Nat.lt_of_lt_of_le hz1 hw1.size
      clear hm hF
      go_wp2_with fail
      refine bodyPost_ret (results_ct rfl _ _ w.heap.size 39 #[.slice A3 m c3, .int .i64 kn, .int .i64 kd] (0, 0) _ rfl (blk3 R2) Try.underlying39 rfl (by kernel_rfl)) rfl ?_
      rw [HE.out]
      exact ⟨_, rfl, by have h := NewT.put (w := w) (t := ⟨trimS ls, (f (-1)).1⟩) (a := .slice A3 m c3) (b := .int .i64 kn) (c := .int .i64 kd) HM.out hc3 HF3.out hB.size (show w.heap.size < wr.heap.size by omega); rw [HK.out] at h ⊢; exact h, (by repeat (first | exact Below.refl _ _ | assumption | exact Hid.out (by assumption) | (with_reducible first | refine bw_drewN ?_ _ | refine bw_alloc ?_ _ | refine bw_drew ?_) | (refine bw_set ?_ (by first | exact Nat.le_refl _ | (simp; done) | (simp; omega) | omega) _)))⟩
set_option maxHeartbeats 4000000 in
theorem eachAdd_calls (n : Nat) (hn : n ≤ 1000) (f : Int → Q × Int) (b1 b2 : Nat) (w : World)
    (HF : Hid (∀ i : Int, -1 ≤ i → i < n → ∀ W, Below w.heap.size w W → Calls Try.prog 122 #[.int .i64 i, .pointer (some ⟨b1, 0, none⟩), .pointer (some ⟨b2, 0, none⟩)] W fun e w' => e = qe (f i) ∧ Below W.heap.size W w')) :
    Calls Try.prog 83 #[.int .i64 n, .func (.func 122) #[] #[.pointer (some ⟨b1, 0, none⟩), .pointer (some ⟨b2, 0, none⟩)]] w fun e w' => ∃ v, e = .returned (.tuple #[v, .int .i64 (eachS n f).2]) ∧ NewT w w' v (eachS n f).1 ∧ Below w.heap.size w w' := by
  go_enter Try.func83, Try.ntmps83
  go_wp2_with fail
  go_loopw [12] (fun i wr => ∃ k : Nat, k ≤ n + 1 ∧ i = .int .i64 k ∧ Hid (EachR f n w k wr)) (fun i _ => n + 1 - (intOf i).toNat)
  case atStart => exact ⟨0, by omega, rfl, Lib.hid (EachR.start f n w)⟩
  case round =>
    obtain ⟨k, hk, rfl, hR⟩ := hrel
    by_cases hlt : k < n + 1
    · have hB := hR.out.bel
      go_wp2_with fail
      obtain ⟨⟨⟨xn, xd⟩, xe⟩, hf⟩ : ∃ r, f ((k : Int) - 1) = r := ⟨_, rfl⟩
      refine (qe_calls (HF.out _ (by omega) (by omega) _ hB) hf).mono ?_
      rintro e w1 ⟨rfl, hw1⟩
      have HFk := Lib.hid hf
      clear hf
      have B1 : Below w.heap.size w w1 := bw_then hB hw1
      have R1 := blk_below hR.out.res hw1
      have S1 : w.heap.size + 2 ≤ w1.heap.size := Nat.le_trans hR.out.size hw1.size
      have hz0 : w.heap.size < w1.heap.size := by omega
      have hz1 : w.heap.size + 1 < w1.heap.size := by omega
      have R1_c0 : w1.cell? ⟨w.heap.size, 0, none⟩ = some (.slice none 0 0) := blk_cell R1 0; have R1_f0 : w1.frozen? ⟨w.heap.size, 0, none⟩ = false := blk_frozen R1 0; have R1_c1 : w1.cell? ⟨w.heap.size, 1, none⟩ = some (.int .i64 0) := blk_cell R1 1; have R1_f1 : w1.frozen? ⟨w.heap.size, 1, none⟩ = false := blk_frozen R1 1; have R1_c2 : w1.cell? ⟨w.heap.size, 2, none⟩ = some (.int .i64 0) := blk_cell R1 2; have R1_f2 : w1.frozen? ⟨w.heap.size, 2, none⟩ = false := blk_frozen R1 2
      by_cases he : xe = 0
      · subst he
        obtain ⟨v, hv, hown⟩ := hR.out.var
        have V1 := blk_below hv hw1
        have O1 := Lib.hid (Kd.R_below hown hw1)
        clear hv hown
        rcases k with _ | k
        · have V1_c0 : w1.cell? ⟨w.heap.size + 1, 0, none⟩ = some (v) := blk_cell V1 0; have V1_f0 : w1.frozen? ⟨w.heap.size + 1, 0, none⟩ = false := blk_frozen V1 0; have V1_c1 : w1.cell? ⟨w.heap.size + 1, 1, none⟩ = some (.int .i64 0) := blk_cell V1 1; have V1_f1 : w1.frozen? ⟨w.heap.size + 1, 1, none⟩ = false := blk_frozen V1 1; have V1_c2 : w1.cell? ⟨w.heap.size + 1, 2, none⟩ = some (.int .i64 0) := blk_cell V1 2; have V1_f2 : w1.frozen? ⟨w.heap.size + 1, 2, none⟩ = false := blk_frozen V1 2
          go_wp2_with fail
          go_roundw
          case rel => exact ⟨1, by omega, rfl, Lib.hid (EachR.first (by simpa using HFk.out) B1 R1 S1 V1 O1.out _)⟩
          case measure => simp [intOf] <;> omega
        · obtain ⟨kn, hkn⟩ : ∃ z, (if k + 1 = 0 then 0 else (f (-1)).1.n) = z := ⟨_, rfl⟩
          obtain ⟨kd, hkd⟩ : ∃ z, (if k + 1 = 0 then 0 else (f (-1)).1.d) = z := ⟨_, rfl⟩
          rw [hkn, hkd] at V1
          rw [if_neg (by omega)] at hkn hkd
          have HKN := Lib.hid hkn
          have HKD := Lib.hid hkd
          clear hkn hkd
          have O1' := Lib.hid (show kQ.R 36 w1 w.heap.size (fun g => w.heap.size + 2 ≤ g) v ((List.range k).map fun i : Nat => (f (i : Int)).1) from O1.out)
          clear O1
          have kb : (((k : Int) + 1) == 0) = false := by simp; omega
          have V1_c0 : w1.cell? ⟨w.heap.size + 1, 0, none⟩ = some (v) := blk_cell V1 0; have V1_f0 : w1.frozen? ⟨w.heap.size + 1, 0, none⟩ = false := blk_frozen V1 0; have V1_c1 : w1.cell? ⟨w.heap.size + 1, 1, none⟩ = some (.int .i64 kn) := blk_cell V1 1; have V1_f1 : w1.frozen? ⟨w.heap.size + 1, 1, none⟩ = false := blk_frozen V1 1; have V1_c2 : w1.cell? ⟨w.heap.size + 1, 2, none⟩ = some (.int .i64 kd) := blk_cell V1 2; have V1_f2 : w1.frozen? ⟨w.heap.size + 1, 2, none⟩ = false := blk_frozen V1 2
          go_wp2_with (at_builtin; go_loud (refine Kd.R_append kQ (w0 := w) w.heap.size rfl (.tmp 31) (.tmp 33) 23 36 (.agg #[.int .i64 0, .int .i64 0]) 16 rfl Try.underlying23 infoRat rfl (by decide) (by omega) v _ ⟨xn, xd⟩ [.int .i64 xn, .int .i64 xd] (fun g => w.heap.size + 2 ≤ g) (fun _ => False) rfl (by first | (go_simp; done) | (go_simp; rfl) | (simp; done)) (kQ_mkM _ _ _ ⟨xn, xd⟩) (fun _ h => h.elim) (fun g hg => by simp at hg; omega) (Kd.R_alloc O1'.out _) (bw_alloc B1 _) (by simp; omega) (by simp; omega) ?_); intro v2 w2 ho2 hb2 hg2 hn2; obtain ⟨A2, c2, rfl, _⟩ := Kd.R_reads ho2; have O2 := Lib.hid ho2; have B2 := Lib.hid hb2; have V2 := blk_grown (blk_alloc V1 _) hg2 (fun e => by have := O1'.out.1 _ e.symm; omega); have R2 := blk_grown (blk_alloc R1 _) hg2 (fun e => by have := O1'.out.1 _ e.symm; omega); have hz2 : w.heap.size + 1 < w2.heap.size := (by have := hg2.size; simp at this; omega); have V2_c0 : w2.cell? ⟨w.heap.size + 1, 0, none⟩ = some (v) := blk_cell V2 0; have V2_f0 : w2.frozen? ⟨w.heap.size + 1, 0, none⟩ = false := blk_frozen V2 0; have V2_c1 : w2.cell? ⟨w.heap.size + 1, 1, none⟩ = some (.int .i64 kn) := blk_cell V2 1; have V2_f1 : w2.frozen? ⟨w.heap.size + 1, 1, none⟩ = false := blk_frozen V2 1; have V2_c2 : w2.cell? ⟨w.heap.size + 1, 2, none⟩ = some (.int .i64 kd) := blk_cell V2 2; have V2_f2 : w2.frozen? ⟨w.heap.size + 1, 2, none⟩ = false := blk_frozen V2 2; clear ho2 hb2 hg2 hn2)
          go_roundw
          case rel => exact ⟨k + 1 + 1, by omega, by go_num, Lib.hid (EachR.next hR.out.ok (by have := HFk.out; push_cast at this; rw [this]) HKN.out.symm HKD.out.symm B2.out R2 (by omega) V2 (by have := HFk.out; rw [show (((k + 1 : Nat) : Int) - 1) = (k : Int) by omega] at this; rw [this]; have h := O2.out; simp only [List.length_append, List.length_map, List.length_range, List.length_cons, List.length_nil, Nat.zero_add] at h; exact h))⟩
          case measure => simp [intOf] <;> omega
      · have heb : (xe != 0) = true := by simpa using he
        go_wp2_with fail
        refine bodyPost_ret (results_ct rfl _ _ w.heap.size 39 #[.slice none 0 0, .int .i64 0, .int .i64 0] (0, 0) _ rfl (blk_alloc (blk3 R1) _) Try.underlying39 rfl (by kernel_rfl)) rfl ?_
        have E := eachS_err hlt hR.out.ok (by rw [HFk.out]; exact he)
        rw [HFk.out] at E
        rw [E]
        exact ⟨_, rfl, ⟨none, 0, rfl, Nat.le_refl _, Kd.F_nil _ _ _⟩, (by repeat (first | exact Below.refl _ _ | assumption | exact Hid.out (by assumption) | (with_reducible first | refine bw_drewN ?_ _ | refine bw_alloc ?_ _ | refine bw_drew ?_) | (refine bw_set ?_ (by first | exact Nat.le_refl _ | (simp; done) | (simp; omega) | omega) _)))⟩
    · obtain rfl : k = n + 1 := by omega
      obtain ⟨v, hv, hown⟩ := hR.out.var
      obtain ⟨A0, c0, rfl, hc0, hrd⟩ := Kd.R_reads hown
      have hlen : ((List.range (n + 1 - 1)).map fun i : Nat => (f (i : Int)).1).length = n := by simp
      have E := eachS_ok hR.out.ok
      obtain ⟨ls, hls⟩ : ∃ l, ((List.range (n + 1 - 1)).map fun i : Nat => (f (i : Int)).1) = l := ⟨_, rfl⟩
      rw [show ((List.range n).map fun i : Nat => (f (i : Int)).1) = ls from hls] at E
      rw [hls] at hlen hrd hv hc0
      have HE := Lib.hid E
      have HLS := Lib.hid hlen
      obtain ⟨kn, hkn⟩ : ∃ z, (if n + 1 = 0 then 0 else (f (-1)).1.n) = z := ⟨_, rfl⟩
      obtain ⟨kd, hkd⟩ : ∃ z, (if n + 1 = 0 then 0 else (f (-1)).1.d) = z := ⟨_, rfl⟩
      rw [hkn, hkd, hlen] at hv
      rw [if_neg (by omega)] at hkn hkd
      have HK : Hid ((f (-1)).1 = ⟨kn, kd⟩) := Lib.hid (by rw [← hkn, ← hkd])
      rw [hlen] at hrd hc0
      have HRD := Lib.hid hrd
      have hB := hR.out.bel
      have R1 := hR.out.res
      have hz1 : w.heap.size + 1 < wr.heap.size := hR.out.size
      clear E hls hlen hrd hown hkn hkd
      have hv_c0 : wr.cell? ⟨w.heap.size + 1, 0, none⟩ = some (.slice A0 n c0) := blk_cell hv 0; have hv_f0 : wr.frozen? ⟨w.heap.size + 1, 0, none⟩ = false := blk_frozen hv 0; have hv_c1 : wr.cell? ⟨w.heap.size + 1, 1, none⟩ = some (.int .i64 kn) := blk_cell hv 1; have hv_f1 : wr.frozen? ⟨w.heap.size + 1, 1, none⟩ = false := blk_frozen hv 1; have hv_c2 : wr.cell? ⟨w.heap.size + 1, 2, none⟩ = some (.int .i64 kd) := blk_cell hv 2; have hv_f2 : wr.frozen? ⟨w.heap.size + 1, 2, none⟩ = false := blk_frozen hv 2
      go_wp2_with fail
      refine (trim_calls' ⟨ls, kn, kd⟩ A0 c0 n HLS.out (by omega) hc0 _ (by have h := HRD.out; rw [← HLS.out] at h; exact h)).mono ?_
      rintro e w1 ⟨A3, c3, m, rfl, hm, hc3, hF, hw1⟩
      have HM := Lib.hid hm
      have HF3 := Lib.hid hF
      have B1 : Below w.heap.size w w1 := bw_then hB hw1
      have R2 := blk_below R1 hw1
      have R2_c0 : w1.cell? ⟨w.heap.size, 0, none⟩ = some (.slice none 0 0) := blk_cell R2 0; have R2_f0 : w1.frozen? ⟨w.heap.size, 0, none⟩ = false := blk_frozen R2 0; have R2_c1 : w1.cell? ⟨w.heap.size, 1, none⟩ = some (.int .i64 0) := blk_cell R2 1; have R2_f1 : w1.frozen? ⟨w.heap.size, 1, none⟩ = false := blk_frozen R2 1; have R2_c2 : w1.cell? ⟨w.heap.size, 2, none⟩ = some (.int .i64 0) := blk_cell R2 2; have R2_f2 : w1.frozen? ⟨w.heap.size, 2, none⟩ = false := blk_frozen R2 2
      have hz2 : w.heap.size + 1 < w1.heap.size := Nat.lt_of_lt_of_le hz1 hw1.size
      clear hm hF
      go_wp2_with fail
      refine bodyPost_ret (results_ct rfl _ _ w.heap.size 39 #[.slice A3 m c3, .int .i64 kn, .int .i64 kd] (0, 0) _ rfl (blk3 R2) Try.underlying39 rfl (by kernel_rfl)) rfl ?_
      rw [HE.out]
      exact ⟨_, rfl, by have h := NewT.put (w := w) (t := ⟨trimS ls, (f (-1)).1⟩) (a := .slice A3 m c3) (b := .int .i64 kn) (c := .int .i64 kd) HM.out hc3 HF3.out hB.size (show w.heap.size < wr.heap.size by omega); rw [HK.out] at h ⊢; exact h, (by repeat (first | exact Below.refl _ _ | assumption | exact Hid.out (by assumption) | (with_reducible first | refine bw_drewN ?_ _ | refine bw_alloc ?_ _ | refine bw_drew ?_) | (refine bw_set ?_ (by first | exact Nat.le_refl _ | (simp; done) | (simp; omega) | omega) _)))⟩
end Go.Proofs.Ytffpdaejemmgpaa.W
