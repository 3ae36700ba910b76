/- This file holds the walk of the law GaussOrder. -/
import Derived.Test.Ytffpdaejemmgpaab3
import Derived.Deep.RegionLaw
namespace Go.Proofs.Ytffpdaejemmgpaa.W
open Go.RowKit Go.Proofs.YtffpdaejemmgpaaW.PrintWords Go.Proofs.YtffpdaejemmgpaaW.PrintMore
set_option linter.unusedVariables false
set_option linter.unusedSimpArgs false
theorem C_fixed {w W : World} {A : Option Addr} {n : Nat} {xs : List T} (hb : Below w.heap.size w W) (h : Kd.C (Kd.fixed kT w) W A n xs) : Kd.C kT W A n xs :=
  Kd.C_read (d := kT) (dm := Kd.fixed kT w) rfl (fun x cs hk => kT.K_below hb hk) h
theorem R_lit0 {α : Type} (d : Kd α) {W : World} {b e base : Nat} {ok : Nat → Prop} (hb : W.heap[b]? = some (.cells #[] e (0, 0))) (h1 : base ≤ b) (h2 : ok b) : Kd.R d e W base ok (.slice (some ⟨b, 0, none⟩) 0 0) [] := by
  refine ⟨fun k hk => ?_, [], ⟨by simp, .inr ⟨b, 0, #[], rfl, h1, hb, Nat.le_refl _, by decide, by simp, by simp⟩⟩, Reps.none _ _⟩
  have : b = k := by simpa [Value.ownBlock] using hk
  subst this; exact h2
theorem reads_drop {w W : World} {ad : Addr} {n cap k : Nat} {l : List T} (hn : l.length = n) (hr : Kd.C kT w (some ad) n l) (hk : k ≤ n) (hc : n ≤ cap) (hne : ¬ cap = k) (hb : Below w.heap.size w W) : ReadsRow (kT.K w) (Kd.fixed kT w).sz W (some (ad.add (k * 3))) (n - k) (l.drop k) := by
  subst hn
  have h := Kd.C_drop hr hk hc
  rw [if_neg hne, List.length_drop] at h
  exact h.imp_ hb (fun _ _ hp => hp)
theorem reads_take {w W : World} {ad : Addr} {n k : Nat} {l : List T} (hn : l.length = n) (hr : Kd.C kT w (some ad) n l) (hk : k ≤ n) (hb : Below w.heap.size w W) : ReadsRow (kT.K w) (Kd.fixed kT w).sz W (some ad) k (l.take k) := by
  subst hn
  have h := Kd.C_take hr hk
  rw [List.length_take, Nat.min_eq_left hk] at h
  exact h.imp_ hb (fun _ _ hp => hp)
set_option maxRecDepth 8000 in
set_option maxHeartbeats 4000000 in
theorem GaussOrder_calls (A : Option Addr) (n cap : Nat) (l : List T) (hn : l.length = n) (hcap : n ≤ cap) (hwf : ∀ t ∈ l, t.wf) (x : Int) (hx : 0 ≤ x ∧ x ≤ 255) (w : World) (hr : Kd.C kT w A n l) :
    Calls Try.prog 6 #[.slice A n cap, .int .u8 x] w fun e w' => e = .returned (.bool true) ∧ Below w.heap.size w w' := by
  have HSM := Lib.hid fun W hb => small_calls A n cap l hn W (Kd.C_below (w1 := W) hr hb)
  have HGS := Lib.hid fun (h : n < 20) W hb => gaussSolve_calls A n cap l hn h hwf W (Kd.C_below (w1 := W) hr hb)
  have HW := Lib.hid hwf
  have HN := Lib.hid hn
  have HR := Lib.hid hr
  obtain ⟨x0, x1⟩ := hx
  clear hr hwf hn
  obtain ⟨sm, hsm⟩ : ∃ b, smallS l = b := ⟨_, rfl⟩
  rw [hsm] at HSM
  cases sm with
  | false =>
    clear hsm
    go_enter Try.func6, Try.ntmps6
    go_wp2_with fail
    refine (awake3_calls _).mono ?_
    rintro e w1 ⟨rfl, hw1⟩
    have B1 : Below w.heap.size w w1 := by first | exact hw1 | exact bw_then (by repeat (first | exact Below.refl _ _ | assumption | exact Hid.out (by assumption) | (with_reducible first | refine bw_drewN ?_ _ | refine bw_alloc ?_ _ | refine bw_drew ?_) | (refine bw_set ?_ (by first | exact Nat.le_refl _ | (simp; done) | (simp; omega) | omega) _))) hw1
    go_wp2_with fail
    refine (HSM.out _ B1).mono ?_
    rintro e w2 ⟨rfl, hw2⟩
    have B2 := bw_then B1 hw2
    go_wp2_with fail
    refine (awake3_calls _).mono ?_
    rintro e w3 ⟨rfl, hw3⟩
    go_wp2_with fail
    go_ret
    exact ⟨rfl, bw_then B2 hw3⟩
  | true =>
    have h12 := smallS_len hsm
    rw [HN.out] at h12
    clear hsm
    by_cases hz : n = 0
    · subst hz
      go_enter Try.func6, Try.ntmps6
      go_wp2_with fail
      refine (awake3_calls _).mono ?_
      rintro e w1 ⟨rfl, hw1⟩
      have B1 : Below w.heap.size w w1 := by first | exact hw1 | exact bw_then (by repeat (first | exact Below.refl _ _ | assumption | exact Hid.out (by assumption) | (with_reducible first | refine bw_drewN ?_ _ | refine bw_alloc ?_ _ | refine bw_drew ?_) | (refine bw_set ?_ (by first | exact Nat.le_refl _ | (simp; done) | (simp; omega) | omega) _))) hw1
      go_wp2_with fail
      refine (HSM.out _ B1).mono ?_
      rintro e w2 ⟨rfl, hw2⟩
      have B2 := bw_then B1 hw2
      go_wp2_with fail
      refine (awake3_calls _).mono ?_
      rintro e w3 ⟨rfl, hw3⟩
      go_wp2_with fail
      go_ret
      exact ⟨rfl, bw_then B2 hw3⟩
    · obtain ⟨ad, rfl, _⟩ := HR.out.2.2 (by omega)
      obtain ⟨k, hk⟩ : ∃ k : Nat, x % (n : Int) = k := ⟨(x % (n : Int)).toNat, by have := Int.emod_nonneg x (show (n : Int) ≠ 0 by omega); omega⟩
      have hkn : k < n := by have := Int.emod_lt_of_pos x (show (0 : Int) < n by omega); omega
      have dz : ((n : Int) == 0) = false := by simp; omega
      have n1 : (1 : Int) ≤ n := by omega
      have nk : ¬ cap = k := by omega
      have nk2 : (cap == k) = false := by simp; omega
      have kn : k ≤ n := by omega
      have kc : k ≤ cap := by omega
      clear hz
      go_enter Try.func6, Try.ntmps6
      go_wp2_with fail
      refine (awake3_calls _).mono ?_
      rintro e w1 ⟨rfl, hw1⟩
      have B1 : Below w.heap.size w w1 := by first | exact hw1 | exact bw_then (by repeat (first | exact Below.refl _ _ | assumption | exact Hid.out (by assumption) | (with_reducible first | refine bw_drewN ?_ _ | refine bw_alloc ?_ _ | refine bw_drew ?_) | (refine bw_set ?_ (by first | exact Nat.le_refl _ | (simp; done) | (simp; omega) | omega) _))) hw1
      go_wp2_with fail
      refine (HSM.out _ B1).mono ?_
      rintro e w2 ⟨rfl, hw2⟩
      have B2 := bw_then B1 hw2
      clear hw1 hw2
      have HKK := Lib.hid hk
      go_wp2_with fail
      rw [HKK.out]
      clear hk
      have hsz2 := B2.size
      have HL1 := Lib.hid (show (0 + (n - k)) * 40 ≤ 140737488355328 by omega)
      have HL2 := Lib.hid (show (n - k + k) * 40 ≤ 140737488355328 by omega)
      have HD := Lib.hid (show (l.drop k).length = n - k by rw [List.length_drop, HN.out])
      go_region_law (first
        | (refine Kd.R_append_rows_step (Kd.fixed kT w) (Rr := kT.K w) (w0 := w) w.heap.size (by rfl) (.tmp 31) (.tmp 34) 22 39 (.agg #[.slice none 0 0, .int .i64 0, .int .i64 0]) 40 (by rfl) Try.underlying22 infoTerm rfl (show 0 < 3 by decide) (by omega) _ [] (l.drop k) _ (n - k) (cap - k) (fun j => w.heap.size ≤ j) (fun _ => False) (by rfl) (by rfl) (R_lit0 _ (by repeat (with_reducible (first | exact blk_new' (by simp) | refine blk_drewN ?_ _ | refine blk_drew ?_ | refine blk_alloc ?_ _))) (by (try simp); omega) (by (try simp); omega)) ?hr (fun x cs h => h) (fun _ h => h.elim) (fun j hj => by (try simp at hj); omega) (bw_then B2 (by repeat (first | exact Below.refl _ _ | assumption | exact Hid.out (by assumption) | (with_reducible first | refine bw_drewN ?_ _ | refine bw_alloc ?_ _ | refine bw_drew ?_) | (refine bw_set ?_ (by first | exact Nat.le_refl _ | (simp; done) | (simp; omega) | omega) _)))) (by (try simp); omega) HL1.out ?_; (case hr => exact reads_drop HN.out HR.out kn hcap nk (bw_then B2 (by repeat (first | exact Below.refl _ _ | assumption | exact Hid.out (by assumption) | (with_reducible first | refine bw_drewN ?_ _ | refine bw_alloc ?_ _ | refine bw_drew ?_) | (refine bw_set ?_ (by first | exact Nat.le_refl _ | (simp; done) | (simp; omega) | omega) _))))); intro v7 w7 ho7 hb7 hg7 hn7; have HO7 := Lib.hid ho7; have HB7 := Lib.hid hb7; clear ho7 hb7 hg7 hn7)
        | (refine Kd.R_append_rows_step (Kd.fixed kT w) (Rr := kT.K w) (w0 := w) w.heap.size (by rfl) (.tmp 35) (.tmp 38) 22 39 (.agg #[.slice none 0 0, .int .i64 0, .int .i64 0]) 40 (by rfl) Try.underlying22 infoTerm rfl (show 0 < 3 by decide) (by omega) _ ([] ++ l.drop k) (l.take k) _ k cap (fun j => w.heap.size ≤ j) (fun _ => False) (by rfl) (by rfl) HO7.out ?hr (fun x cs h => h) (fun _ h => h.elim) (fun j hj => by have := HB7.out.size; omega) HB7.out HB7.out.size (by rw [List.nil_append, HD.out]; exact HL2.out) ?_; (case hr => exact reads_take HN.out HR.out kn HB7.out); intro v8 w8 ho8 hb8 hg8 hn8; have HO8 := Lib.hid ho8; have HB8 := Lib.hid hb8; clear ho8 hb8 hg8 hn8))
      obtain ⟨A8, c8, rfl, hc8, hC8⟩ := Kd.R_reads HO8.out
      have hl8 : (([] ++ l.drop k) ++ l.take k).length = n := by rw [List.nil_append, List.length_append, List.length_take, List.length_drop, HN.out]; omega
      have hm8 : ∀ t, t ∈ ([] ++ l.drop k) ++ l.take k ↔ t ∈ l := fun t => by
        rw [List.nil_append, List.mem_append]
        constructor
        · rintro (h | h)
          · exact List.mem_of_mem_drop h
          · exact List.mem_of_mem_take h
        · intro h
          rw [← List.take_append_drop k l] at h
          rcases List.mem_append.1 h with h | h
          · exact .inr h
          · exact .inl h
      have hC8' := C_fixed HB8.out hC8
      rw [hl8] at hC8' ⊢
      obtain ⟨M, hM⟩ : ∃ M, ([] ++ l.drop k) ++ l.take k = M := ⟨_, rfl⟩
      rw [hM] at hl8 hm8 hC8'
      have HMM := Lib.hid hm8
      have HG2 := Lib.hid fun W hb => gaussSolve_calls A8 n c8 M hl8 (by omega) (fun t ht => HW.out t ((hm8 t).1 ht)) W (Kd.C_below (w1 := W) hC8' hb)
      clear hM hl8 hm8 hC8' hC8 hc8 HO8 HO7 HB7 HL1 HL2 HD
      go_wp2_with fail
      refine (HGS.out (by omega) _ HB8.out).mono ?_
      rintro e w3 ⟨⟨r, hG, A3, P3, an, ac, pn, pc, rfl, ha, hac, hCa, hp, hpc, hCp⟩, hw3⟩
      have B3 := bw_then HB8.out hw3
      have HG := Lib.hid hG
      have HCA := Lib.hid hCa
      have HCP := Lib.hid hCp
      have HA := Lib.hid ha
      have HP := Lib.hid hp
      clear hG hCa hCp ha hp
      go_wp2_with fail
      refine (HG2.out _ hw3).mono ?_
      rintro e w4 ⟨⟨r', hG', A4, P4, bn, bc, qn, qc, rfl, hb, hbc, hCb, hq, hqc, hCq⟩, hw4⟩
      have B4 := bw_then B3 hw4
      have HGr := Lib.hid hG'
      clear hG'
      by_cases hs : r.s = 2
      · have d1 : (r.s == 2) = true := by simp [hs]
        clear hs hb hCb hq hCq
        go_wp2_with fail
        go_ret
        exact ⟨rfl, B4⟩
      · have d1 : (r.s == 2) = false := by simp [hs]
        have HS := Lib.hid hs
        clear hs
        by_cases hs' : r'.s = 2
        · have d2 : (r'.s == 2) = true := by simp [hs']
          clear hs' hb hCb hq hCq
          go_wp2_with fail
          go_ret
          exact ⟨rfl, B4⟩
        · have d2 : (r'.s == 2) = false := by simp [hs']
          have e : r = r' := HG.out.order HGr.out HW.out HMM.out HS.out hs'
          subst e
          have e1 : bn = an := by rw [← hb, HA.out]
          have e2 : qn = pn := by rw [← hq, HP.out]
          subst e1; subst e2
          have d3 : (r.s == r.s) = true := by simp
          have HIN := Lib.hid (Ints_calls P3 P4 pc qc qn r.p w4 (Kd.C_below HCP.out hw4) hCq)
          have HSA := Lib.hid fun W hb => Same_calls A3 A4 ac bc bn r.a W (Kd.C_below (w1 := W) (Kd.C_below HCA.out hw4) hb) (Kd.C_below hCb hb)
          clear hs' hb hCb hq hCq hw4
          go_wp2_with fail
          refine (HIN.out).mono ?_
          rintro e w5 ⟨rfl, hw5⟩
          go_wp2_with fail
          refine (HSA.out _ hw5).mono ?_
          rintro e w6 ⟨rfl, hw6⟩
          go_wp2_with fail
          go_ret
          exact ⟨rfl, bw_then (bw_then B4 hw5) hw6⟩
/-- The arguments in the order in which the row hands them. -/
theorem GaussOrder_row (A : Option Addr) (n cap : Nat) (l : List T) (hn : l.length = n) (hc : n ≤ cap) (hwf : ∀ t ∈ l, t.wf) (x : Int) (hx : (Lit.int .u8 x).wf = true) (w : World) (hr : Kd.C kT w A n l) :
    Calls Try.prog 6 #[.slice A n cap, .int .u8 x] w fun e w' => e = .returned (.bool true) ∧ Below w.heap.size w w' :=
  GaussOrder_calls A n cap l hn hc hwf x (by simp [Lit.wf, IntKind.min, IntKind.max, IntKind.signed, IntKind.bits] at hx; omega) w hr
end Go.Proofs.Ytffpdaejemmgpaa.W
