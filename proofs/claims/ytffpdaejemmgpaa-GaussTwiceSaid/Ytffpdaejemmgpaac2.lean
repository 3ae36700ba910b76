/- This file holds the walk of the law GaussTwice. -/
import Derived.Test.Ytffpdaejemmgpaab3
namespace Go.Proofs.Ytffpdaejemmgpaa.W
open Go.RowKit Go.Proofs.YtffpdaejemmgpaaW.PrintWords Go.Proofs.YtffpdaejemmgpaaW.PrintMore
set_option linter.unusedVariables false
set_option linter.unusedSimpArgs false
attribute [local go_sem high] eqRat
set_option maxRecDepth 8000 in
set_option maxHeartbeats 4000000 in
theorem GaussTwice_calls (A : Option Addr) (n cap : Nat) (l : List T) (hn : l.length = n) (hwf : ∀ t ∈ l, t.wf) (w : World) (hr : Kd.C kT w A n l) :
    Calls Try.prog 4 #[.slice A n cap] w fun e w' => e = .returned (.bool true) ∧ Below w.heap.size w w' := by
  have HSM := Lib.hid fun W hb => small_calls A n cap l hn W (Kd.C_below (w1 := W) hr hb)
  have HGS := Lib.hid fun (h : n < 20) W hb => gaussSolve_calls A n cap l hn h hwf W (Kd.C_below (w1 := W) hr hb)
  have HW := Lib.hid hwf
  have HN := Lib.hid hn
  clear hr hwf hn
  obtain ⟨sm, hsm⟩ : ∃ b, smallS l = b := ⟨_, rfl⟩
  rw [hsm] at HSM
  cases sm with
  | false =>
    clear hsm
    go_enter Try.func4, Try.ntmps4
    go_wp2_with fail
    refine (awake3_calls _).mono ?_
    rintro e w1 ⟨rfl, hw1⟩
    go_wp2_with fail
    refine (HSM.out _ hw1).mono ?_
    rintro e w2 ⟨rfl, hw2⟩
    have B2 := bw_then hw1 hw2
    go_wp2_with fail
    refine (awake3_calls _).mono ?_
    rintro e w3 ⟨rfl, hw3⟩
    go_wp2_with fail
    go_ret
    exact ⟨rfl, bw_then B2 hw3⟩
  | true =>
    have h12 := smallS_len hsm
    have h20 : n < 20 := by rw [← HN.out]; omega
    clear hsm h12
    go_enter Try.func4, Try.ntmps4
    go_wp2_with fail
    refine (awake3_calls _).mono ?_
    rintro e w1 ⟨rfl, hw1⟩
    go_wp2_with fail
    refine (HSM.out _ hw1).mono ?_
    rintro e w2 ⟨rfl, hw2⟩
    have B2 := bw_then hw1 hw2
    go_wp2_with fail
    refine (HGS.out h20 _ B2).mono ?_
    rintro e w3 ⟨⟨r, hG, A3, P3, an, ac, pn, pc, rfl, ha, hac, hCa, hp, hpc, hCp⟩, hw3⟩
    have B3 := bw_then B2 hw3
    have HG := Lib.hid hG
    clear hG hw3 hw2 hw1
    by_cases hs : r.s = 0
    · have d0 : (r.s != 0) = false := by simp [hs]
      have hgd := HG.out.good HW.out
      have hwa : ∀ t ∈ r.a, t.wf := fun t ht => (hgd.1 t ht).w
      have h8 : an < 20 := by rw [← ha]; have := hgd.2.1; omega
      have HG2 := Lib.hid fun W hb => gaussSolve_calls A3 an ac r.a ha h8 hwa W (Kd.C_below (w1 := W) hCa hb)
      have HTW := Lib.hid fun r' (h : GSol r.a r') => HG.out.twice HW.out hs h
      have HS := Lib.hid hs
      have HA := Lib.hid ha
      have HP := Lib.hid hp
      have HCA := Lib.hid hCa
      have HCP := Lib.hid hCp
      clear hgd hwa h8 hs ha hp hCa hCp
      go_wp2_with fail
      refine (HG2.out _ (Below.refl _ _)).mono ?_
      rintro e w4 ⟨⟨r', hG', A4, P4, bn, bc, qn, qc, rfl, hb, hbc, hCb, hq, hqc, hCq⟩, hw4⟩
      obtain rfl := HTW.out r' hG'
      have B4 := bw_then B3 hw4
      have e1 : bn = an := by rw [← hb, HA.out]
      have e2 : qn = pn := by rw [← hq, HP.out]
      subst e1; subst e2
      have d1 : (r'.s == 0) = true := by simp [HS.out]
      have HSA := Lib.hid (Same_calls A3 A4 ac bc bn r'.a w4 (Kd.C_below HCA.out hw4) hCb)
      have HIN := Lib.hid fun W hb => Ints_calls P3 P4 pc qc qn r'.p W (Kd.C_below (w1 := W) (Kd.C_below HCP.out hw4) hb) (Kd.C_below hCq hb)
      clear hG' hb hCb hq hCq hw4
      go_wp2_with fail
      refine (HSA.out).mono ?_
      rintro e w5 ⟨rfl, hw5⟩
      go_wp2_with fail
      refine (HIN.out _ hw5).mono ?_
      rintro e w6 ⟨rfl, hw6⟩
      go_wp2_with fail
      go_ret
      exact ⟨rfl, bw_then (bw_then B4 hw5) hw6⟩
    · have d0 : (r.s != 0) = true := by simp [hs]
      obtain ⟨e1, e2⟩ := (HG.out.good HW.out).2.2.2.2.1 hs
      rw [e1] at ha
      rw [e2] at hp
      have za : an = 0 := by rw [← ha]; rfl
      have zp : pn = 0 := by rw [← hp]; rfl
      subst za; subst zp
      clear ha hac hCa hp hpc hCp hs e1 e2
      go_wp2_with fail
      go_ret
      exact ⟨rfl, B3⟩
/-- The arguments in the order in which the row hands them. -/
theorem GaussTwice_row (A : Option Addr) (n cap : Nat) (l : List T) (hn : l.length = n) (_ : n ≤ cap) (hwf : ∀ t ∈ l, t.wf) (w : World) (hr : Kd.C kT w A n l) :
    Calls Try.prog 4 #[.slice A n cap] w fun e w' => e = .returned (.bool true) ∧ Below w.heap.size w w' := GaussTwice_calls A n cap l hn hwf w hr
end Go.Proofs.Ytffpdaejemmgpaa.W
