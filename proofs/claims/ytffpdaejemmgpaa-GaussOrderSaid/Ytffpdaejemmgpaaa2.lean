/- This file holds the walk of gauss.Solve. -/
import Derived.Test.Ytffpdaejemmgpaaa1
import Derived.Deep.RegionHeld3
import Derived.Deep.RegionLaw
namespace Go.Proofs.Ytffpdaejemmgpaa.W
open Go.RowKit Go.Proofs.YtffpdaejemmgpaaW.PrintWords Go.Proofs.YtffpdaejemmgpaaW.PrintMore
set_option linter.unusedVariables false
set_option linter.unusedSimpArgs false
theorem cells3 {W : World} {a : Nat} {a0 a1 a2 : Value} {t : TypeId} (ha : W.heap[a]? = some (.cells #[a0, a1, a2] t (0, 0))) :
    W.cell? ⟨a, 0, none⟩ = some a0 ∧ W.cell? ⟨a, 1, none⟩ = some a1 ∧ W.cell? ⟨a, 2, none⟩ = some a2 := ⟨blk_cell ha 0, blk_cell ha 1, blk_cell ha 2⟩
theorem cells3_set {W : World} {a r i : Nat} {u a0 a1 a2 : Value} (h : W.cell? ⟨a, 0, none⟩ = some a0 ∧ W.cell? ⟨a, 1, none⟩ = some a1 ∧ W.cell? ⟨a, 2, none⟩ = some a2) (ha : ¬ r = a) :
    (W.setCell ⟨r, i, none⟩ u).cell? ⟨a, 0, none⟩ = some a0 ∧ (W.setCell ⟨r, i, none⟩ u).cell? ⟨a, 1, none⟩ = some a1 ∧ (W.setCell ⟨r, i, none⟩ u).cell? ⟨a, 2, none⟩ = some a2 := by
  simp only [far_cell ha]; exact h
set_option maxRecDepth 8000 in
set_option maxHeartbeats 8000000 in
theorem gaussSolve_calls (A : Option Addr) (n cap : Nat) (l : List T) (hn : l.length = n) (hmx : n < 20) (hwf : ∀ t ∈ l, t.wf) (w : World) (hr : Kd.C kT w A n l) :
    Calls Try.prog 16 #[.slice A n cap] w fun e w' => (∃ r, GSol l r ∧ RetG w w' e r) ∧ Below w.heap.size w w' := by
  have HC := Lib.hid fun W hb => ContainsTerm_calls A n cap l hn hwf W (Kd.C_below (w1 := W) hr hb)
  have HW := Lib.hid hwf
  have HN := Lib.hid hn
  have HR := Lib.hid hr
  have hm := hr.2.1
  have hg400 : ¬ (400 : Int) < n := by omega
  clear hr hwf hn
  obtain ⟨bd, hbd⟩ : ∃ b, (l.any fun q => !rightT q) = b := ⟨_, rfl⟩
  rw [hbd] at HC
  have HBD := Lib.hid hbd
  clear hbd
  cases bd with
  | true =>
    go_enter Try.func16, Try.ntmps16
    go_wp2_with fail
    refine (HC.out _ (by repeat (first | exact Below.refl _ _ | assumption | exact Hid.out (by assumption) | (with_reducible first | refine bw_drewN ?_ _ | refine bw_alloc ?_ _ | refine bw_drew ?_) | (refine bw_set ?_ (by first | exact Nat.le_refl _ | (simp; done) | (simp; omega) | omega) _)))).mono ?_
    rintro e w1 ⟨rfl, hw1⟩
    have B1 : Below w.heap.size w w1 := bw_then (by repeat (first | exact Below.refl _ _ | assumption | exact Hid.out (by assumption) | (with_reducible first | refine bw_drewN ?_ _ | refine bw_alloc ?_ _ | refine bw_drew ?_) | (refine bw_set ?_ (by first | exact Nat.le_refl _ | (simp; done) | (simp; omega) | omega) _))) hw1
    go_wp2_with fail
    go_ret3
    exact ⟨⟨_, .inl ⟨any_bad' HBD.out, rfl⟩, RetG.none _ _ rfl⟩, B1⟩
  | false =>
    go_enter Try.func16, Try.ntmps16
    go_wp2_with fail
    refine (HC.out _ (by repeat (first | exact Below.refl _ _ | assumption | exact Hid.out (by assumption) | (with_reducible first | refine bw_drewN ?_ _ | refine bw_alloc ?_ _ | refine bw_drew ?_) | (refine bw_set ?_ (by first | exact Nat.le_refl _ | (simp; done) | (simp; omega) | omega) _)))).mono ?_
    rintro e w1 ⟨rfl, hw1⟩
    have B1 : Below w.heap.size w w1 := bw_then (by repeat (first | exact Below.refl _ _ | assumption | exact Hid.out (by assumption) | (with_reducible first | refine bw_drewN ?_ _ | refine bw_alloc ?_ _ | refine bw_drew ?_) | (refine bw_set ?_ (by first | exact Nat.le_refl _ | (simp; done) | (simp; omega) | omega) _))) hw1
    go_wp2_with fail
    have H0 : Hid (L1 w1.heap.size w (w1.alloc (.cells #[.slice none 0 0, .bool false] 82)) [] (.slice none 0 0)) := Lib.hid ⟨(by repeat (first | exact Below.refl _ _ | assumption | exact Hid.out (by assumption) | (with_reducible first | refine bw_drewN ?_ _ | refine bw_alloc ?_ _ | refine bw_drew ?_) | (refine bw_set ?_ (by first | exact Nat.le_refl _ | (simp; done) | (simp; omega) | omega) _))), blk_new _ _, Kd.R_nil _ _ _ _ _, by simp, B1.size⟩
    have hg1 := B1.size
    generalize hgg : w1.heap.size = g at H0
    go_loopw [23] (fun i wr => ∃ (k : Nat) (P : List GV) (v : Value), k ≤ n ∧ i = .int .i64 k ∧ Hid (P.map GV.x = startS (l.take k)) ∧ Hid (L1 g w wr P v)) (fun i _ => n - (intOf i).toNat)
    case atStart => exact ⟨0, [], .slice none 0 0, by omega, rfl, Lib.hid rfl, H0⟩
    case round =>
      obtain ⟨k, P, v, hk, rfl, hP, hL⟩ := hrel
      have hlo := hL.out.lo
      have hfl := hL.out.flag
      have hgl := blk_lt hfl
      have HLT := Lib.hid hL.out.lt
      have hfl_c0 : wr.cell? ⟨g, 0, none⟩ = some (v) := blk_cell hfl 0; have hfl_f0 : wr.frozen? ⟨g, 0, none⟩ = false := blk_frozen hfl 0; have hfl_c1 : wr.cell? ⟨g, 1, none⟩ = some (.bool false) := blk_cell hfl 1; have hfl_f1 : wr.frozen? ⟨g, 1, none⟩ = false := blk_frozen hfl 1
      have HFL := Lib.hid hfl
      clear hfl
      by_cases hlt : k < n
      · obtain ⟨ad, B, m, cc, rfl, c0, c1, c2, hmm, hmc, hC⟩ := kT_at (Kd.C_below HR.out hL.out.b) k hlt
        have hkx : k < l.length := by rw [HN.out]; exact hlt
        have hq : l.getD k zT = l[k] := by rw [List.getD_eq_getElem?_getD, List.getElem?_eq_getElem hkx]; rfl
        rw [hq] at c1 c2 hmm hC
        have hwq := HW.out _ (List.getElem_mem hkx)
        obtain ⟨q, hxq⟩ : ∃ q, l[k] = q := ⟨_, rfl⟩
        rw [hxq] at c1 c2 hmm hC hwq
        have HX := Lib.hid hxq
        have HO := Lib.hid fun W hb => Own_calls q B cc m hmm hmc hwq W (Kd.C_below (w1 := W) hC hb)
        obtain ⟨⟨ol, on, od⟩, hown⟩ : ∃ o, ownS q = o := ⟨_, rfl⟩
        rw [hown] at HO
        have HOW := Lib.hid hown
        obtain ⟨ql, qn, qd⟩ := q
        dsimp only at *
        have HMM := Lib.hid hmm
        clear hq hxq hwq hmm hC hown
        go_wp2_with fail
        have hzz : g < wr.heap.size + 1 := by omega
        have T0 : (wr.alloc (.cells #[.slice B m cc, .int .i64 qn, .int .i64 qd] 39)).heap[wr.heap.size]? = some (.cells #[.slice B m cc, .int .i64 qn, .int .i64 qd] 39 (0, 0)) := blk_new _ _
        have HT0 := Lib.hid T0
        clear T0
        have hgn : ¬ g = wr.heap.size := by omega
        go_region_law (first
            | (go_simp; go_at_call 36; refine (HO.out _ (by repeat (first | exact Below.refl _ _ | assumption | exact Hid.out (by assumption) | (with_reducible first | refine bw_drewN ?_ _ | refine bw_alloc ?_ _ | refine bw_drew ?_) | (refine bw_set ?_ (by first | exact Nat.le_refl _ | (simp; done) | (simp; omega) | omega) _)))).mono ?_; rintro e w3 ⟨⟨A3, c3, m3, rfl, hm3, hc3, hF3⟩, hw3⟩; have B3 : Below wr.heap.size wr w3 := bw_then (by repeat (first | exact Below.refl _ _ | assumption | exact Hid.out (by assumption) | (with_reducible first | refine bw_drewN ?_ _ | refine bw_alloc ?_ _ | refine bw_drew ?_) | (refine bw_set ?_ (by first | exact Nat.le_refl _ | (simp; done) | (simp; omega) | omega) _))) hw3; have hL3 := Lib.hid (hL.out.below B3); have hz3 := B3.size; have hgl3 : g < w3.heap.size := Nat.lt_of_lt_of_le hgl hz3; have HM3 := Lib.hid hm3; have HF3 := Lib.hid hF3; have T3 := blk_below (blk_drew HT0.out) hw3; have HT3 := Lib.hid T3; have T3_c0 : w3.cell? ⟨wr.heap.size, 0, none⟩ = some (.slice B m cc) := blk_cell T3 0; have T3_f0 : w3.frozen? ⟨wr.heap.size, 0, none⟩ = false := blk_frozen T3 0; have T3_c1 : w3.cell? ⟨wr.heap.size, 1, none⟩ = some (.int .i64 qn) := blk_cell T3 1; have T3_f1 : w3.frozen? ⟨wr.heap.size, 1, none⟩ = false := blk_frozen T3 1; have T3_c2 : w3.cell? ⟨wr.heap.size, 2, none⟩ = some (.int .i64 qd) := blk_cell T3 2; have T3_f2 : w3.frozen? ⟨wr.heap.size, 2, none⟩ = false := blk_frozen T3 2; have hzw3 : wr.heap.size < w3.heap.size := (by have := hw3.size; simp at this; omega); have hG3 := hL3.out.flag; have hG3_c0 : w3.cell? ⟨g, 0, none⟩ = some (v) := blk_cell hG3 0; have hG3_f0 : w3.frozen? ⟨g, 0, none⟩ = false := blk_frozen hG3 0; have hG3_c1 : w3.cell? ⟨g, 1, none⟩ = some (.bool false) := blk_cell hG3 1; have hG3_f1 : w3.frozen? ⟨g, 1, none⟩ = false := blk_frozen hG3 1; clear hm3 hF3 hw3 T3 hG3)
            | (refine Kd.R_append_step kGV (w0 := w) w.heap.size (by rfl) (.tmp 31) (.tmp 35) 80 85 (.agg #[.slice none 0 0, .int .i64 0, .int .i64 0, .int .i64 0]) 48 (by rfl) Try.underlying80 infoRow rfl (by decide) (by omega) v P ⟨⟨⟨ol, ⟨on, od⟩⟩, -1⟩, A3, m3, c3⟩ [.slice A3 m3 c3, .int .i64 on, .int .i64 od, .int .i64 (-1)] (fun j => g < j) (fun _ => False) (by rfl) (by rfl) (kGV_M _ _ _ ⟨⟨⟨ol, ⟨on, od⟩⟩, -1⟩, A3, m3, c3⟩) (fun _ h => h.elim) (fun j hj => by omega) hL3.out.own hL3.out.b (by have := hL3.out.b.size; omega) ?hlen ?_; (case hlen => have := congrArg List.length hP.out; simp only [List.length_map, startS, List.length_take] at this; omega); intro v2 w4 ho2 hb2 hg2 hn2; obtain ⟨A2, c2, rfl, hc2, _⟩ := Kd.R_reads ho2; have hG4 := blk_grown hL3.out.flag hg2 (fun e => by have := hL3.out.own.1 _ e.symm; omega); have hG4_c0 : w4.cell? ⟨g, 0, none⟩ = some (v) := blk_cell hG4 0; have hG4_f0 : w4.frozen? ⟨g, 0, none⟩ = false := blk_frozen hG4 0; have hG4_c1 : w4.cell? ⟨g, 1, none⟩ = some (.bool false) := blk_cell hG4 1; have hG4_f1 : w4.frozen? ⟨g, 1, none⟩ = false := blk_frozen hG4 1; have HO2 := Lib.hid ho2; have HB2 := Lib.hid hb2; have HG2 := Lib.hid hg2; have HN2 := Lib.hid hn2; clear ho2 hb2 hg2 hn2 hG4))
        all_goals
          go_wp2_with fail
          go_roundw
          case rel =>
            refine ⟨k + 1, P ++ [⟨⟨⟨ol, ⟨on, od⟩⟩, -1⟩, A3, m3, c3⟩], .slice A2 (P.length + 1) c2, by omega, by go_num, Lib.hid (start_step hkx hP.out (by dsimp only; rw [HX.out, HOW.out])), Lib.hid ?_⟩
            simpa only [List.length_append, List.length_cons, List.length_nil, Nat.zero_add] using L1.next hL3.out (p := ⟨⟨⟨ol, ⟨on, od⟩⟩, -1⟩, A3, m3, c3⟩) HM3.out hc3 HF3.out (by simp; omega) (fun j hj => by have := HLT.out j hj; simp; omega) HO2.out HB2.out HG2.out (by have h := HN2.out; exact h)
          case measure => simp [intOf]; omega
      · obtain rfl : k = n := by omega
        have hPl : P.length = k := by have := congrArg List.length hP.out; simp only [List.length_map, startS, List.length_take] at this; have := HN.out; omega
        obtain ⟨A1, c1, rfl, hro⟩ := hL.out.rowsOf
        have hP2 : P.map GV.x = startS l := by rw [hP.out, List.take_of_length_le (by rw [HN.out]; omega)]
        rw [hP2] at hro
        rw [hPl] at hro hL HFL
        have hbad := any_bad (by rw [HN.out]; exact hmx) HBD.out
        have hgood : ∀ y ∈ startS l, Good y.t ∧ y.b = -1 := fun y hy => by
          have hI := Inv.start l (badS_false hbad).2 HW.out
          refine ⟨hI.good y hy, ?_⟩
          obtain ⟨t, _, rfl⟩ := List.mem_map.1 hy
          rfl
        have HSV := Lib.hid (gsolve_calls g k c1 A1 (startS l) hgood (by omega) wr HFL.out hro)
        have HBAD := Lib.hid hbad
        have HIN : Hid ((solveN (startS l, false) 8).2 = false → Inv (AllS l) 8 (solveN (startS l, false) 8).1) := Lib.hid fun h => solveN_inv (o := false) (Inv.start l (badS_false hbad).2 HW.out) 8 h
        have HL := hL
        clear hro hP2 hbad hgood hfl_c0 hfl_f0 hfl_c1 hfl_f1 hPl HFL
        obtain ⟨sS, hsS⟩ : ∃ sS, solveN (startS l, false) 8 = sS := ⟨_, rfl⟩
        rw [hsS] at HSV
        have HSS := Lib.hid hsS
        obtain ⟨Rs, os⟩ := sS
        clear hsS
        go_wp2_with fail
        refine (HSV.out).mono ?_
        rintro e w5 ⟨rfl, hV5⟩
        have hf5 := hV5.flag
        dsimp only at hf5
        have HV5 := Lib.hid hV5
        have hf5_c0 : w5.cell? ⟨g, 0, none⟩ = some (.slice A1 k c1) := blk_cell hf5 0; have hf5_f0 : w5.frozen? ⟨g, 0, none⟩ = false := blk_frozen hf5 0; have hf5_c1 : w5.cell? ⟨g, 1, none⟩ = some (.bool os) := blk_cell hf5 1; have hf5_f1 : w5.frozen? ⟨g, 1, none⟩ = false := blk_frozen hf5 1
        clear hf5 hV5
        have B5 : Below w.heap.size w w5 := hL.out.b.trans (HV5.out.kg.b.mono hlo)
        cases os with
        | true =>
          go_wp2_with fail
          go_ret3
          exact ⟨⟨_, .inr (.inl ⟨HBAD.out, by rw [HSS.out], rfl⟩), RetG.none _ _ rfl⟩, B5⟩
        | false =>
          have hI := HIN.out (by rw [HSS.out])
          rw [HSS.out] at hI
          have HSO := Lib.hid (sort_calls g k c1 A1 (Rs, false) (fun y hy => by
            rcases hI.b y hy with h | ⟨u, h, hu⟩ <;> omega) hmx wr w5 HV5.out)
          clear hI
          go_wp2_with fail
          refine (HSO.out).mono ?_
          rintro e w6 ⟨rfl, R, hRp, hRs, hV6⟩
          have B6 : Below w.heap.size w w6 := hL.out.b.trans (hV6.kg.b.mono hlo)
          obtain ⟨P6, hP6, hl6, hT6, hC6⟩ := hV6.cells
          have hf6 := hV6.flag
          have hf6_c0 : w6.cell? ⟨g, 0, none⟩ = some (.slice A1 k c1) := blk_cell hf6 0; have hf6_f0 : w6.frozen? ⟨g, 0, none⟩ = false := blk_frozen hf6 0; have hf6_c1 : w6.cell? ⟨g, 1, none⟩ = some (.bool false) := blk_cell hf6 1; have hf6_f1 : w6.frozen? ⟨g, 1, none⟩ = false := blk_frozen hf6 1
          have HRP := Lib.hid hRp
          have HRS := Lib.hid hRs
          have HP6 := Lib.hid hP6
          have HL6 := Lib.hid hl6
          have HT6 := Lib.hid hT6
          have HC6 := Lib.hid hC6
          have H2 : Hid (L2 w w6 w6 P6 0 (.slice none 0 0) (.slice none 0 0)) := Lib.hid ⟨Below.refl _ _, Kd.R_nil _ _ _ _ _, Kd.R_nil _ _ _ _ _, by simp⟩
          clear hRp hRs hP6 hl6 hT6 hC6 hV6 hf6
          go_wp2_with fail
          go_loopw [8, 9, 56] (fun a8 a9 i W => ∃ (j : Nat), j ≤ k ∧ i = .int .i64 j ∧ Hid (L2 w w6 W P6 j a8 a9)) (fun _ _ i _ => k - (intOf i).toNat)
          case atStart => exact ⟨0, by omega, rfl, H2⟩
          case round =>
            obtain ⟨j, hj, rfl, hL2⟩ := hrel
            have hjb := hL2.out.b
            have hjs := hjb.size
            by_cases hlt : j < k
            · obtain ⟨q, hq⟩ : ∃ q, P6[j]? = some q := ⟨_, List.getElem?_eq_getElem (by have := HL6.out; omega)⟩
              obtain ⟨r, rfl, hrl, q0, q1, q2, q3⟩ := HC6.out j q hq
              have HQ := Lib.hid hq
              obtain ⟨jc, jf⟩ := bcell hjb
              rw [← jc r _ hrl] at q0 q1 q2 q3
              obtain ⟨⟨⟨ql, qn, qd⟩, qb⟩, qB, qm, qc⟩ := q
              dsimp only at q0 q1 q2 q3
              clear hq jc jf hjb
              by_cases hqb : qb = -1
              · have d1 : (qb != -1) = false := by simp [hqb]
                have HQB := Lib.hid hqb
                clear hqb
                by_cases hk0 : qn = 0
                · have d2 : (qn != 0) = false := by simp [hk0]
                  have HK0 := Lib.hid hk0
                  clear hk0
                  go_wp2_with fail
                  go_roundw
                  case rel => exact ⟨j + 1, by omega, by go_num, Lib.hid ((hL2.out.skip HQ.out HQB.out HK0.out).below (by repeat (first | exact Below.refl _ _ | assumption | exact Hid.out (by assumption) | (with_reducible first | refine bw_drewN ?_ _ | refine bw_alloc ?_ _ | refine bw_drew ?_) | (refine bw_set ?_ (by first | exact Nat.le_refl _ | (simp; done) | (simp; omega) | omega) _))))⟩
                  case measure => simp [intOf]; omega
                · have d2 : (qn != 0) = true := by simp [hk0]
                  have HK0 := Lib.hid hk0
                  clear hk0
                  go_wp2_with fail
                  go_ret3
                  refine ⟨⟨⟨[], [], 1⟩, .inr (.inr ⟨HBAD.out, by rw [HSS.out], R, by rw [HSS.out]; exact HRP.out, HRS.out, ?_⟩), RetG.none _ _ rfl⟩, bw_alloc (B6.trans (hL2.out.b.mono B6.size)) _⟩
                  have hin := List.mem_of_getElem? HQ.out
                  have hin2 : (⟨⟨ql, ⟨qn, qd⟩⟩, qb⟩ : GR) ∈ R := by rw [← HP6.out]; exact List.mem_map.2 ⟨_, hin, rfl⟩
                  unfold outOf
                  rw [if_pos]
                  rw [List.any_eq_true]
                  exact ⟨_, hin2, by simp [HQB.out, HK0.out]⟩
              · have d1 : (qb != -1) = true := by simp [hqb]
                have HQB := Lib.hid hqb
                clear hqb
                have HT11 := Lib.hid (blk_new wr (.cells #[.slice qB qm qc, .int .i64 qn, .int .i64 qd, .int .i64 qb] 85))
                have HLN := Lib.hid (show ((P6.take j).filter fun p => taken p.x).length ≤ j from Nat.le_trans (List.length_filter_le _ _) (by rw [List.length_take]; omega))
                have HLN2 := Lib.hid (show (((P6.take j).filter fun p => taken p.x).map fun p => p.x.b).length ≤ j by rw [List.length_map]; exact HLN.out)
                obtain ⟨TS, hTS⟩ : ∃ TS, ((P6.take j).filter fun p => taken p.x) = TS := ⟨_, rfl⟩
                have HTS := Lib.hid hTS
                have hRt := hL2.out.t
                have hRp := hL2.out.p
                rw [hTS] at hRt hRp HLN HLN2
                obtain ⟨PS, hPS⟩ : ∃ PS, (TS.map fun p => p.x.b) = PS := ⟨_, rfl⟩
                have HPS := Lib.hid hPS
                rw [hPS] at hRp HLN2
                have HRt := Lib.hid hRt
                have HRp := Lib.hid hRp
                clear hTS hPS hRt hRp
                have HU8 := Lib.hid (fun (b : Nat) (h : u8.ownBlock = some b) => (show b < wr.heap.size by obtain ⟨cells, hc⟩ := Kd.R_typed HRt.out b h; exact blk_lt hc))
                have HU9 := Lib.hid (fun (b : Nat) (h : u9.ownBlock = some b) => (show b < wr.heap.size by obtain ⟨cells, hc⟩ := Kd.R_typed HRp.out b h; exact blk_lt hc))
                go_wp2_with fail
                go_region_held3 (fun w' : World => w'.cell? ⟨wr.heap.size, 0, none⟩ = some (.slice qB qm qc) ∧ w'.cell? ⟨wr.heap.size, 1, none⟩ = some (.int .i64 qn) ∧ w'.cell? ⟨wr.heap.size, 2, none⟩ = some (.int .i64 qd) ∧ w'.cell? ⟨wr.heap.size, 3, none⟩ = some (.int .i64 qb))
                  (first | exact cells4 (by repeat (with_reducible (first | exact HT11.out | exact HT7.out | exact HT8.out | exact blk_new' (by simp) | refine blk_drewN ?_ _ | refine blk_drew ?_ | refine blk_alloc ?_ _))))
                  (first
                    | (refine Kd.R_append_rows_step kGT (Rr := kGT.K w6) (w0 := w6) w6.heap.size (by rfl) (.tmp 64) (.tmp 67) 22 39 (.agg #[.slice none 0 0, .int .i64 0, .int .i64 0]) 40 (by rfl) Try.underlying22 infoTerm rfl (by decide) (by omega) _ TS [⟨⟨⟨ql, ⟨qn, qd⟩⟩, qb⟩, qB, qm, qc⟩] _ 1 1 (fun j => w6.heap.size ≤ j) (fun _ => False) (by rfl) (by rfl) (Kd.R_below HRt.out (by repeat (first | exact Below.refl _ _ | assumption | exact Hid.out (by assumption) | (with_reducible first | refine bw_drewN ?_ _ | refine bw_alloc ?_ _ | refine bw_drew ?_) | (refine bw_set ?_ (by first | exact Nat.le_refl _ | (simp; done) | (simp; omega) | omega) _)))) ?hr (fun x cs h => kGT_M h _) (fun _ h => h.elim) ?hf (bw_then hL2.out.b (by repeat (first | exact Below.refl _ _ | assumption | exact Hid.out (by assumption) | (with_reducible first | refine bw_drewN ?_ _ | refine bw_alloc ?_ _ | refine bw_drew ?_) | (refine bw_set ?_ (by first | exact Nat.le_refl _ | (simp; done) | (simp; omega) | omega) _)))) ?hb ?hl ?_; (case hr => exact one_term (q := ⟨⟨⟨ql, ⟨qn, qd⟩⟩, qb⟩, qB, qm, qc⟩) (by repeat (with_reducible (first | exact HT11.out | exact HT7.out | exact HT8.out | exact blk_new' (by simp) | refine blk_drewN ?_ _ | refine blk_drew ?_ | refine blk_alloc ?_ _)))); (case hf => intro j hj; simp at hj; omega); (case hb => simp; omega); (case hl => have := HLN.out; omega); intro v7 w7 ho7 hb7 hg7 hn7; have HT7 := Lib.hid (show w7.heap[wr.heap.size]? = some (.cells #[.slice qB qm qc, .int .i64 qn, .int .i64 qd, .int .i64 qb] 85 (0, 0)) from blk_grown (by repeat (with_reducible (first | exact HT11.out | exact HT7.out | exact HT8.out | exact blk_new' (by simp) | refine blk_drewN ?_ _ | refine blk_drew ?_ | refine blk_alloc ?_ _))) hg7 (fun e => by have := HU8.out _ e.symm; omega)); have HP7 := Lib.hid (Kd.R_over' (Kd.R_below HRp.out (by repeat (first | exact Below.refl _ _ | assumption | exact Hid.out (by assumption) | (with_reducible first | refine bw_drewN ?_ _ | refine bw_alloc ?_ _ | refine bw_drew ?_) | (refine bw_set ?_ (by first | exact Nat.le_refl _ | (simp; done) | (simp; omega) | omega) _)))) (Kd.R_typed (Kd.R_below HRt.out (by repeat (first | exact Below.refl _ _ | assumption | exact Hid.out (by assumption) | (with_reducible first | refine bw_drewN ?_ _ | refine bw_alloc ?_ _ | refine bw_drew ?_) | (refine bw_set ?_ (by first | exact Nat.le_refl _ | (simp; done) | (simp; omega) | omega) _))))) (by intro q hq; simp [Kd.int, Kd.scalar] at hq; subst hq; decide) hg7); have hz7 : wr.heap.size + 1 < w7.heap.size := (by have := hg7.size; simp at this; omega); have HO7 := Lib.hid ho7; have HB7 := Lib.hid hb7; have HN7 := Lib.hid hn7; have HG7 := Lib.hid hg7; clear ho7 hb7 hg7 hn7)
                    | (refine Kd.R_append_rows_step (Kd.int .i64) (Rr := (Kd.int .i64).K w6) (w0 := w6) w6.heap.size (by rfl) (.tmp 69) (.tmp 72) 26 3 (.int .i64 0) 8 (by rfl) Try.underlying26 infoInt rfl (by decide) (by omega) _ PS [qb] _ 1 1 (fun j => w6.heap.size ≤ j) (fun _ => False) (by rfl) (by rfl) (Kd.R_below HP7.out (by repeat (first | exact Below.refl _ _ | assumption | exact Hid.out (by assumption) | (with_reducible first | refine bw_drewN ?_ _ | refine bw_alloc ?_ _ | refine bw_drew ?_) | (refine bw_set ?_ (by first | exact Nat.le_refl _ | (simp; done) | (simp; omega) | omega) _)))) ?hr (fun x cs h => h) (fun _ h => h.elim) ?hf (bw_then HB7.out (by repeat (first | exact Below.refl _ _ | assumption | exact Hid.out (by assumption) | (with_reducible first | refine bw_drewN ?_ _ | refine bw_alloc ?_ _ | refine bw_drew ?_) | (refine bw_set ?_ (by first | exact Nat.le_refl _ | (simp; done) | (simp; omega) | omega) _)))) ?hb ?hl ?_; (case hr => exact one_int (by repeat (with_reducible (first | exact blk_new' (by simp) | refine blk_drewN ?_ _ | refine blk_drew ?_ | refine blk_alloc ?_ _ | refine blk_grown ?_ HG7.out (fun e => by have := HU8.out _ e.symm; omega))))); (case hf => intro j hj; (try simp at hj); omega); (case hb => (try simp); omega); (case hl => have := HLN2.out; omega); intro v8 w8 ho8 hb8 hg8 hn8; have HT8 := Lib.hid (show w8.heap[wr.heap.size]? = some (.cells #[.slice qB qm qc, .int .i64 qn, .int .i64 qd, .int .i64 qb] 85 (0, 0)) from blk_grown (by repeat (with_reducible (first | exact HT11.out | exact HT7.out | exact HT8.out | exact blk_new' (by simp) | refine blk_drewN ?_ _ | refine blk_drew ?_ | refine blk_alloc ?_ _))) hg8 (fun e => by have := HU9.out _ e.symm; omega)); have HO8 := Lib.hid ho8; have HB8 := Lib.hid hb8; have HG8 := Lib.hid hg8; clear ho8 hb8 hg8 hn8))
                all_goals
                  go_wp2_with fail
                  go_roundw
                  case rel =>
                    refine ⟨j + 1, by omega, by go_num, Lib.hid ⟨HB8.out, ?_, ?_, ok_take hL2.out.ok HQ.out HQB.out⟩⟩
                    · rw [filter_take HQ.out HQB.out, HTS.out]
                      refine Kd.R_over' (e' := 3) ?_ ?_ ?_ HG8.out
                      · exact Kd.R_below HO7.out (by repeat (first | exact Below.refl _ _ | assumption | exact Hid.out (by assumption) | (with_reducible first | refine bw_drewN ?_ _ | refine bw_alloc ?_ _ | refine bw_drew ?_) | (refine bw_set ?_ (by first | exact Nat.le_refl _ | (simp; done) | (simp; omega) | omega) _)))
                      · exact Kd.R_typed (Kd.R_below HP7.out (by repeat (first | exact Below.refl _ _ | assumption | exact Hid.out (by assumption) | (with_reducible first | refine bw_drewN ?_ _ | refine bw_alloc ?_ _ | refine bw_drew ?_) | (refine bw_set ?_ (by first | exact Nat.le_refl _ | (simp; done) | (simp; omega) | omega) _))))
                      · intro q hq; simp [kGT, Kd.iso, Kd.pair, Kd.int, Kd.scalar] at hq; subst hq; decide
                    · rw [filter_take HQ.out HQB.out, HTS.out, List.map_append, HPS.out]
                      exact HO8.out
                  case measure => simp [intOf]; omega
            · obtain rfl : j = k := by omega
              obtain ⟨A8, c8, rfl, hc8, hC8⟩ := Kd.R_reads hL2.out.t
              obtain ⟨A9, c9, rfl, hc9, hC9⟩ := Kd.R_reads hL2.out.p
              have HH := Lib.hid (And.intro hc8 (And.intro hC8 (And.intro hc9 hC9)))
              clear hc8 hC8 hc9 hC9
              go_wp2_with fail
              go_ret3
              obtain ⟨hc8, hC8, hc9, hC9⟩ := HH.out
              have et : P6.take j = P6 := List.take_of_length_le (by have := HL6.out; omega)
              have ok := hL2.out.ok
              rw [et] at hc8 hC8 hc9 hC9 ok
              refine ⟨⟨outOf R, .inr (.inr ⟨HBAD.out, by rw [HSS.out], R, by rw [HSS.out]; exact HRP.out, HRS.out, rfl⟩), ?_⟩, B6.trans (hL2.out.b.mono B6.size)⟩
              have hno : (R.any fun y => y.b == -1 && y.t.k.n != 0) = false := by
                rw [List.any_eq_false]
                intro y hy
                rw [← HP6.out] at hy
                obtain ⟨q, hq, rfl⟩ := List.mem_map.1 hy
                have := ok q hq
                simp only [Bool.and_eq_true, beq_iff_eq, bne_iff_ne]
                exact this
              have e1 : (R.filter taken).map GR.t = (P6.filter fun p => taken p.x).map fun p => p.x.t := by
                rw [← HP6.out, List.filter_map, List.map_map]; rfl
              have e2 : (R.filter taken).map GR.b = (P6.filter fun p => taken p.x).map fun p => p.x.b := by
                rw [← HP6.out, List.filter_map, List.map_map]; rfl
              unfold outOf
              rw [if_neg (by rw [hno]; simp), e1, e2]
              refine ⟨A8, A9, (P6.filter fun p => taken p.x).length, c8, ((P6.filter fun p => taken p.x).map fun p => p.x.b).length, c9, by rw [et]; rfl, by simp, hc8, ?_, rfl, hc9, hC9⟩
              exact C_terms hC8 (fun p hp => by
                have := HT6.out p (List.mem_filter.1 hp).1
                exact ⟨this.1, this.2.1, Kd.C_below this.2.2 hL2.out.b⟩)
end Go.Proofs.Ytffpdaejemmgpaa.W
