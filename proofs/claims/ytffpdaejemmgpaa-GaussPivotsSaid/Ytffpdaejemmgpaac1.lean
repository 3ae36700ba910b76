/- This file holds the walk of the law GaussPivots. -/
import Derived.Test.Ytffpdaejemmgpaab2
import Derived.Deep.RegionHeld3
namespace Go.Proofs.Ytffpdaejemmgpaa.W
open Go.RowKit Go.Proofs.YtffpdaejemmgpaaW.PrintWords Go.Proofs.YtffpdaejemmgpaaW.PrintMore
set_option linter.unusedVariables false
set_option linter.unusedSimpArgs false
attribute [local go_sem high] eqRat
set_option maxRecDepth 8000 in
set_option maxHeartbeats 4000000 in
theorem GaussPivots_calls (A : Option Addr) (n cap : Nat) (l : List T) (hn : l.length = n) (hwf : ∀ t ∈ l, t.wf) (w : World) (hr : Kd.C kT w A n l) :
    Calls Try.prog 5 #[.slice A n cap] w fun e w' => e = .returned (.bool true) ∧ Below w.heap.size w w' := by
  have HSM := Lib.hid fun W hb => small_calls A n cap l hn W (Kd.C_below (w1 := W) hr hb)
  have HGS := Lib.hid fun (h : n < 20) W hb => gaussSolve_calls A n cap l hn h hwf W (Kd.C_below (w1 := W) hr hb)
  have HW := Lib.hid hwf
  have HN := Lib.hid hn
  clear hr hwf hn
  obtain ⟨sm, hsm⟩ : ∃ b, smallS l = b := ⟨_, rfl⟩
  rw [hsm] at HSM
  cases sm with
  | false =>
    clear hsm
    go_enter Try.func5, Try.ntmps5
    go_wp2_with fail
    refine (awake3_calls _).mono ?_
    rintro e w1 ⟨rfl, hw1⟩
    go_wp2_with fail
    refine (HSM.out _ hw1).mono ?_
    rintro e w2 ⟨rfl, hw2⟩
    have B2 := bw_then hw1 hw2
    go_wp2_with fail
    refine (awake3_calls _).mono ?_
    rintro e w3 ⟨rfl, hw3⟩
    go_wp2_with fail
    go_ret
    exact ⟨rfl, bw_then B2 hw3⟩
  | true =>
    have h12 := smallS_len hsm
    have h20 : n < 20 := by rw [← HN.out]; omega
    clear hsm h12
    go_enter Try.func5, Try.ntmps5
    go_wp2_with fail
    refine (awake3_calls _).mono ?_
    rintro e w1 ⟨rfl, hw1⟩
    go_wp2_with fail
    refine (HSM.out _ hw1).mono ?_
    rintro e w2 ⟨rfl, hw2⟩
    have B2 := bw_then hw1 hw2
    go_wp2_with fail
    refine (HGS.out h20 _ B2).mono ?_
    rintro e w3 ⟨⟨r, hG, A3, P3, an, ac, pn, pc, rfl, ha, hac, hCa, hp, hpc, hCp⟩, hw3⟩
    have B3 := bw_then B2 hw3
    have HG := Lib.hid hG
    clear hG hw3 hw2 hw1
    by_cases hs : r.s = 0
    · have d0 : (r.s != 0) = false := by simp [hs]
      obtain ⟨hlen, hpv⟩ := HG.out.pivots HW.out hs
      have hgd := (HG.out.good HW.out)
      have hpl : pn ≤ 8 := by rw [← hp]; exact hgd.2.2.1
      have hal : an ≤ 8 := by rw [← ha]; exact hgd.2.1
      have hap : an = pn := by rw [← ha, ← hp]; exact hlen
      have HPV := Lib.hid hpv
      have HA := Lib.hid ha
      have HP := Lib.hid hp
      have HCA := Lib.hid hCa
      have HCP := Lib.hid hCp
      have HH := Lib.hid hap
      clear ha hp hCa hCp hlen hpv hgd hs hap
      go_wp2_with fail
      go_loopw [6] (fun iv wr => ∃ i : Nat, i ≤ pn ∧ iv = .int .i64 i ∧ Hid (Below w3.heap.size w3 wr)) (fun iv _ => pn - (intOf iv).toNat)
      case atStart => exact ⟨0, by omega, rfl, Lib.hid (Below.refl _ _)⟩
      case round =>
        obtain ⟨i, hi, rfl, hB⟩ := hrel
        by_cases hlt : i < pn
        · obtain ⟨wo, rfl⟩ : ∃ wo : World, wo = wr := ⟨_, rfl⟩
          have hir : i < r.p.length := by rw [HP.out]; exact hlt
          obtain ⟨p1, p2, p3, p4⟩ := HPV.out i hir
          obtain ⟨ad, rfl, c0⟩ := kI_at (Kd.C_below HCP.out hB.out) i hlt
          have hq : r.p.getD i 0 = r.p[i] := by rw [List.getD_eq_getElem?_getD, List.getElem?_eq_getElem hir]; rfl
          rw [hq] at c0
          have hc1 : 0 < i → wo.cell? (ad.add (i - 1)) = some (.int .i64 r.p[i - 1]) := fun h0 => by
            obtain ⟨ad', e, c1⟩ := kI_at (Kd.C_below HCP.out hB.out) (i - 1) (by omega)
            injection e with e
            subst e
            rw [List.getD_eq_getElem?_getD, List.getElem?_eq_getElem (by omega)] at c1
            exact c1
          obtain ⟨pi, hpi⟩ : ∃ pi, r.p[i] = pi := ⟨_, rfl⟩
          rw [hpi] at c0 p2 p3 p4
          have HP4 := Lib.hid p4
          have dn : decide (pi < 0) = false := by simp; omega
          have d7 : decide (7 < pi) = false := by simp; omega
          have g8 : (i : Int) < pn := by omega
          have hc2 : Hid (∀ W, Below w3.heap.size w3 W → W.cell? (ad.add i) = some (.int .i64 pi)) := Lib.hid fun W hb => by
            obtain ⟨ad', e, c1⟩ := kI_at (Kd.C_below HCP.out hb) i hlt
            injection e with e
            subst e
            rw [hq, hpi] at c1
            exact c1
          have ht : Hid (∀ wr, Below w3.heap.size w3 wr → True) := Lib.hid fun _ _ => trivial
          by_cases h0 : i = 0
          · have di : decide (0 < i) = false := by simp [h0]
            clear hq hpi p1 hc1 p4 h0
            go_wp2_with fail
            go_quiet (fail)
            rename_i nq
            have HB2 := Lib.hid (bw_drewN hB.out nq)
            clear c0 p2 p3 dn d7 di
            go_wp2_with fail
            go_loopw [7] (fun kv wr => ∃ k : Nat, k ≤ an ∧ kv = .int .i64 k ∧ Hid (Below w3.heap.size w3 wr)) (fun kv _ => an - (intOf kv).toNat)
            case atStart => exact ⟨0, by omega, rfl, HB2⟩
            case round =>
              obtain ⟨k, hk, rfl, hBk⟩ := hrel
              by_cases hltk : k < an
              · have hkr : k < r.a.length := by rw [HA.out]; exact hltk
                obtain ⟨ad2, B, m, cc, rfl, x0, x1, x2, hmm, _, hC⟩ := kT_at (Kd.C_below HCA.out hBk.out) k hltk
                have hq2 : r.a.getD k zT = r.a[k] := by rw [List.getD_eq_getElem?_getD, List.getElem?_eq_getElem hkr]; rfl
                rw [hq2] at x1 x2 hmm hC
                have y0 := hc2.out _ hBk.out
                have h4 := HP4.out k hkr
                have HAT := Lib.hid fun W hb => At2_calls r.a[k] B cc m hmm pi W (Kd.C_below (w1 := W) hC hb)
                rw [h4] at HAT
                obtain ⟨⟨kn, kd⟩, hkk⟩ : ∃ q, r.a[k].k = q := ⟨_, rfl⟩
                rw [hkk] at x1 x2 HAT
                dsimp only at x1 x2 HAT
                have HX := Lib.hid (And.intro x0 (And.intro x1 (And.intro x2 y0)))
                clear hq2 hmm hC h4 hkk y0
                by_cases hki : k = i
                · have dk : ((k : Int) == (i : Int)) = true := by simp [hki]
                  rw [if_pos hki] at HAT
                  clear hki
                  have HE0 := Lib.hid (six_cells (B := wr.heap.size) (W1 := (wr.alloc (.cells #[.int .i64 1, .int .i64 1] 36)).drew) (bw_drew (below_alloc (Below.refl _ _) (.cells #[.int .i64 1, .int .i64 1] 36))) HX.out.1 HX.out.2.1 HX.out.2.2.1 HX.out.2.2.2 (blk_drew (blk_new wr (.cells #[.int .i64 1, .int .i64 1] 36))))
                  go_wp2_with fail
                  go_region_held3 (fun w' : World => w'.cell? (ad2.add (k * 3)) = some (.slice B m cc) ∧ w'.cell? ⟨(ad2.add (k * 3)).block, (ad2.add (k * 3)).off + 1, none⟩ = some (.int .i64 kn) ∧ w'.cell? ⟨(ad2.add (k * 3)).block, (ad2.add (k * 3)).off + 2, none⟩ = some (.int .i64 kd) ∧ w'.cell? (ad.add i) = some (.int .i64 pi) ∧ w'.cell? ⟨wr.heap.size, 0, none⟩ = some (.int .i64 1) ∧ w'.cell? ⟨wr.heap.size, 1, none⟩ = some (.int .i64 1))
                    (first | exact HE0.out | exact HE1.out)
                    (first | (go_at_call 21; refine (HAT.out _ (by repeat (first | exact Below.refl _ _ | assumption | exact Hid.out (by assumption) | (with_reducible first | refine bw_drewN ?_ _ | refine bw_alloc ?_ _ | refine bw_drew ?_) | (refine bw_set ?_ (by first | exact Nat.le_refl _ | (simp; done) | (simp; omega) | omega) _)))).mono ?_; rintro e w5 ⟨rfl, hw5⟩; have HB5 := Lib.hid (bw_then hBk.out (bw_then (by repeat (first | exact Below.refl _ _ | assumption | exact Hid.out (by assumption) | (with_reducible first | refine bw_drewN ?_ _ | refine bw_alloc ?_ _ | refine bw_drew ?_) | (refine bw_set ?_ (by first | exact Nat.le_refl _ | (simp; done) | (simp; omega) | omega) _))) hw5)); have HE1 := Lib.hid (six_below hw5 HE0.out); clear hw5))
                  go_wp2_with fail
                  go_roundw
                  case rel => exact ⟨k + 1, by omega, by go_num, HB5⟩
                  case measure => simp [intOf]; omega
                · have dk : ((k : Int) == (i : Int)) = false := by simp; omega
                  rw [if_neg hki] at HAT
                  clear hki
                  have HE0 := Lib.hid (six_cells (B := wr.heap.size) (W1 := (wr.alloc (.cells #[.int .i64 0, .int .i64 1] 36)).drew) (bw_drew (below_alloc (Below.refl _ _) (.cells #[.int .i64 0, .int .i64 1] 36))) HX.out.1 HX.out.2.1 HX.out.2.2.1 HX.out.2.2.2 (blk_drew (blk_new wr (.cells #[.int .i64 0, .int .i64 1] 36))))
                  go_wp2_with fail
                  go_region_held3 (fun w' : World => w'.cell? (ad2.add (k * 3)) = some (.slice B m cc) ∧ w'.cell? ⟨(ad2.add (k * 3)).block, (ad2.add (k * 3)).off + 1, none⟩ = some (.int .i64 kn) ∧ w'.cell? ⟨(ad2.add (k * 3)).block, (ad2.add (k * 3)).off + 2, none⟩ = some (.int .i64 kd) ∧ w'.cell? (ad.add i) = some (.int .i64 pi) ∧ w'.cell? ⟨wr.heap.size, 0, none⟩ = some (.int .i64 0) ∧ w'.cell? ⟨wr.heap.size, 1, none⟩ = some (.int .i64 1))
                    (first | exact HE0.out | exact HE1.out)
                    (first | (go_at_call 21; refine (HAT.out _ (by repeat (first | exact Below.refl _ _ | assumption | exact Hid.out (by assumption) | (with_reducible first | refine bw_drewN ?_ _ | refine bw_alloc ?_ _ | refine bw_drew ?_) | (refine bw_set ?_ (by first | exact Nat.le_refl _ | (simp; done) | (simp; omega) | omega) _)))).mono ?_; rintro e w5 ⟨rfl, hw5⟩; have HB5 := Lib.hid (bw_then hBk.out (bw_then (by repeat (first | exact Below.refl _ _ | assumption | exact Hid.out (by assumption) | (with_reducible first | refine bw_drewN ?_ _ | refine bw_alloc ?_ _ | refine bw_drew ?_) | (refine bw_set ?_ (by first | exact Nat.le_refl _ | (simp; done) | (simp; omega) | omega) _))) hw5)); have HE1 := Lib.hid (six_below hw5 HE0.out); clear hw5))
                  go_wp2_with fail
                  go_roundw
                  case rel => exact ⟨k + 1, by omega, by go_num, HB5⟩
                  case measure => simp [intOf]; omega
              · obtain rfl : k = an := by omega
                go_wp2_with fail
                go_roundw
                case rel => exact ⟨i + 1, by omega, by go_num, hBk⟩
                case measure => simp [intOf]; omega
          · obtain ⟨j, hj⟩ : ∃ j, j + 1 = i := ⟨i - 1, by omega⟩
            have di : decide (0 < i) = true := by simp; omega
            have c1 := hc1 (by omega)
            have p1' := p1 (by omega)
            have ej : i - 1 = j := by omega
            simp only [ej] at c1 p1'
            rw [hpi] at p1'
            obtain ⟨pj, hpj⟩ : ∃ pj, r.p[j]'(by omega) = pj := ⟨_, rfl⟩
            rw [hpj] at c1 p1'
            have dl : decide (pi ≤ pj) = false := by simp; omega
            have e0 : IntKind.i64.wrap (j : Int) = j := by rw [IntKind.wrap_i64]; omega
            have e1 : (i : Int) - 1 = j := by omega
            have e4 : (j : Int) < pn := by omega
            have e5 : j < pn := by omega
            have e8 : (0 : Int) ≤ (j : Int) := by omega
            clear hq hpi p1 hc1 p4 p1' hpj ej hj
            go_wp2_with fail
            go_quiet (fail)
            rename_i nq
            have HB2 := Lib.hid (bw_drewN hB.out nq)
            clear c0 c1 p2 p3 dn d7 di h0 dl e0 e1 e4 e5 e8
            go_wp2_with fail
            go_loopw [7] (fun kv wr => ∃ k : Nat, k ≤ an ∧ kv = .int .i64 k ∧ Hid (Below w3.heap.size w3 wr)) (fun kv _ => an - (intOf kv).toNat)
            case atStart => exact ⟨0, by omega, rfl, HB2⟩
            case round =>
              obtain ⟨k, hk, rfl, hBk⟩ := hrel
              by_cases hltk : k < an
              · have hkr : k < r.a.length := by rw [HA.out]; exact hltk
                obtain ⟨ad2, B, m, cc, rfl, x0, x1, x2, hmm, _, hC⟩ := kT_at (Kd.C_below HCA.out hBk.out) k hltk
                have hq2 : r.a.getD k zT = r.a[k] := by rw [List.getD_eq_getElem?_getD, List.getElem?_eq_getElem hkr]; rfl
                rw [hq2] at x1 x2 hmm hC
                have y0 := hc2.out _ hBk.out
                have h4 := HP4.out k hkr
                have HAT := Lib.hid fun W hb => At2_calls r.a[k] B cc m hmm pi W (Kd.C_below (w1 := W) hC hb)
                rw [h4] at HAT
                obtain ⟨⟨kn, kd⟩, hkk⟩ : ∃ q, r.a[k].k = q := ⟨_, rfl⟩
                rw [hkk] at x1 x2 HAT
                dsimp only at x1 x2 HAT
                have HX := Lib.hid (And.intro x0 (And.intro x1 (And.intro x2 y0)))
                clear hq2 hmm hC h4 hkk y0
                by_cases hki : k = i
                · have dk : ((k : Int) == (i : Int)) = true := by simp [hki]
                  rw [if_pos hki] at HAT
                  clear hki
                  have HE0 := Lib.hid (six_cells (B := wr.heap.size) (W1 := (wr.alloc (.cells #[.int .i64 1, .int .i64 1] 36)).drew) (bw_drew (below_alloc (Below.refl _ _) (.cells #[.int .i64 1, .int .i64 1] 36))) HX.out.1 HX.out.2.1 HX.out.2.2.1 HX.out.2.2.2 (blk_drew (blk_new wr (.cells #[.int .i64 1, .int .i64 1] 36))))
                  go_wp2_with fail
                  go_region_held3 (fun w' : World => w'.cell? (ad2.add (k * 3)) = some (.slice B m cc) ∧ w'.cell? ⟨(ad2.add (k * 3)).block, (ad2.add (k * 3)).off + 1, none⟩ = some (.int .i64 kn) ∧ w'.cell? ⟨(ad2.add (k * 3)).block, (ad2.add (k * 3)).off + 2, none⟩ = some (.int .i64 kd) ∧ w'.cell? (ad.add i) = some (.int .i64 pi) ∧ w'.cell? ⟨wr.heap.size, 0, none⟩ = some (.int .i64 1) ∧ w'.cell? ⟨wr.heap.size, 1, none⟩ = some (.int .i64 1))
                    (first | exact HE0.out | exact HE1.out)
                    (first | (go_at_call 21; refine (HAT.out _ (by repeat (first | exact Below.refl _ _ | assumption | exact Hid.out (by assumption) | (with_reducible first | refine bw_drewN ?_ _ | refine bw_alloc ?_ _ | refine bw_drew ?_) | (refine bw_set ?_ (by first | exact Nat.le_refl _ | (simp; done) | (simp; omega) | omega) _)))).mono ?_; rintro e w5 ⟨rfl, hw5⟩; have HB5 := Lib.hid (bw_then hBk.out (bw_then (by repeat (first | exact Below.refl _ _ | assumption | exact Hid.out (by assumption) | (with_reducible first | refine bw_drewN ?_ _ | refine bw_alloc ?_ _ | refine bw_drew ?_) | (refine bw_set ?_ (by first | exact Nat.le_refl _ | (simp; done) | (simp; omega) | omega) _))) hw5)); have HE1 := Lib.hid (six_below hw5 HE0.out); clear hw5))
                  go_wp2_with fail
                  go_roundw
                  case rel => exact ⟨k + 1, by omega, by go_num, HB5⟩
                  case measure => simp [intOf]; omega
                · have dk : ((k : Int) == (i : Int)) = false := by simp; omega
                  rw [if_neg hki] at HAT
                  clear hki
                  have HE0 := Lib.hid (six_cells (B := wr.heap.size) (W1 := (wr.alloc (.cells #[.int .i64 0, .int .i64 1] 36)).drew) (bw_drew (below_alloc (Below.refl _ _) (.cells #[.int .i64 0, .int .i64 1] 36))) HX.out.1 HX.out.2.1 HX.out.2.2.1 HX.out.2.2.2 (blk_drew (blk_new wr (.cells #[.int .i64 0, .int .i64 1] 36))))
                  go_wp2_with fail
                  go_region_held3 (fun w' : World => w'.cell? (ad2.add (k * 3)) = some (.slice B m cc) ∧ w'.cell? ⟨(ad2.add (k * 3)).block, (ad2.add (k * 3)).off + 1, none⟩ = some (.int .i64 kn) ∧ w'.cell? ⟨(ad2.add (k * 3)).block, (ad2.add (k * 3)).off + 2, none⟩ = some (.int .i64 kd) ∧ w'.cell? (ad.add i) = some (.int .i64 pi) ∧ w'.cell? ⟨wr.heap.size, 0, none⟩ = some (.int .i64 0) ∧ w'.cell? ⟨wr.heap.size, 1, none⟩ = some (.int .i64 1))
                    (first | exact HE0.out | exact HE1.out)
                    (first | (go_at_call 21; refine (HAT.out _ (by repeat (first | exact Below.refl _ _ | assumption | exact Hid.out (by assumption) | (with_reducible first | refine bw_drewN ?_ _ | refine bw_alloc ?_ _ | refine bw_drew ?_) | (refine bw_set ?_ (by first | exact Nat.le_refl _ | (simp; done) | (simp; omega) | omega) _)))).mono ?_; rintro e w5 ⟨rfl, hw5⟩; have HB5 := Lib.hid (bw_then hBk.out (bw_then (by repeat (first | exact Below.refl _ _ | assumption | exact Hid.out (by assumption) | (with_reducible first | refine bw_drewN ?_ _ | refine bw_alloc ?_ _ | refine bw_drew ?_) | (refine bw_set ?_ (by first | exact Nat.le_refl _ | (simp; done) | (simp; omega) | omega) _))) hw5)); have HE1 := Lib.hid (six_below hw5 HE0.out); clear hw5))
                  go_wp2_with fail
                  go_roundw
                  case rel => exact ⟨k + 1, by omega, by go_num, HB5⟩
                  case measure => simp [intOf]; omega
              · obtain rfl : k = an := by omega
                go_wp2_with fail
                go_roundw
                case rel => exact ⟨i + 1, by omega, by go_num, hBk⟩
                case measure => simp [intOf]; omega
        · obtain rfl : i = pn := by omega
          have dd : ((an : Int) == (i : Int)) = true := by simp [HH.out]
          go_wp2_with fail
          go_ret
          exact ⟨rfl, B3.trans (hB.out.mono B3.size)⟩
    · have d0 : (r.s != 0) = true := by simp [hs]
      clear ha hac hCa hp hpc hCp hs
      go_wp2_with fail
      go_ret
      exact ⟨rfl, B3⟩
/-- The arguments in the order in which the row hands them. -/
theorem GaussPivots_row (A : Option Addr) (n cap : Nat) (l : List T) (hn : l.length = n) (_ : n ≤ cap) (hwf : ∀ t ∈ l, t.wf) (w : World) (hr : Kd.C kT w A n l) :
    Calls Try.prog 5 #[.slice A n cap] w fun e w' => e = .returned (.bool true) ∧ Below w.heap.size w w' := GaussPivots_calls A n cap l hn hwf w hr
end Go.Proofs.Ytffpdaejemmgpaa.W
