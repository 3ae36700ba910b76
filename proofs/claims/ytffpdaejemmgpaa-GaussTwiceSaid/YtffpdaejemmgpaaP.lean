/- This file holds the walks of term.Scale and term.Add. -/
import Derived.Test.YtffpdaejemmgpaaO
namespace Go.Proofs.Ytffpdaejemmgpaa.W
open Go.RowKit Go.Proofs.YtffpdaejemmgpaaW.PrintWords Go.Proofs.YtffpdaejemmgpaaW.PrintMore
set_option linter.unusedVariables false
set_option linter.unusedSimpArgs false
def scaleS (t : T) (q : Q) : T × Int := if rightT t && rightB q then eachS t.c.length (fun i => mulS (oneT t i) q) else (⟨[], ⟨0, 0⟩⟩, 2)
def addTS (t u : T) : T × Int := if rightT t && rightT u then eachS (max t.c.length u.c.length) (fun i => addS (oneT t i) (oneT u i)) else (⟨[], ⟨0, 0⟩⟩, 2)
/-- A term in new memory and an error are handed back. -/
def RetT (w w' : World) (e : Ending) (r : T × Int) : Prop := ∃ (A : Option Addr) (c m : Nat), e = .returned (.tuple #[.agg #[.slice A m c, .int .i64 r.1.k.n, .int .i64 r.1.k.d], .int .i64 r.2]) ∧ r.1.c.length = m ∧ m ≤ c ∧ Kd.F kQ w' (fun k => w.heap.size ≤ k) A m r.1.c
theorem RetT.zero {w w' : World} {e : Ending} {x : Value} {k : Int} (he : e = .returned (.tuple #[.agg #[.slice none 0 0, .int .i64 0, .int .i64 0], x])) (hx : x = .int .i64 k) : RetT w w' e (⟨[], ⟨0, 0⟩⟩, k) :=
  ⟨none, 0, 0, by rw [he, hx], rfl, Nat.le_refl _, Kd.F_nil _ _ _⟩
theorem F_put {w1 : World} {A : Option Addr} {m N B g : Nat} {l : List Q} {a b c : Value} (hF : Kd.F kQ w1 (fun k => N ≤ k) A m l) (hN : B ≤ N) (hg : g < N) :
    Kd.F kQ (((w1.setCell ⟨g, 0, none⟩ a).setCell ⟨g, 1, none⟩ b).setCell ⟨g, 2, none⟩ c) (fun k => B ≤ k) A m l :=
  Kd.F_mono (Kd.F_far (Kd.F_far (Kd.F_far hF (fun k hk e => by dsimp only at e; omega) _) (fun k hk e => by dsimp only at e; omega) _) (fun k hk e => by dsimp only at e; omega) _) (fun k hk => Nat.le_trans hN hk)
theorem TRight_calls' (t : T) (A : Option Addr) (cap n : Nat) (hn : t.c.length = n) (hw : t.wf) (w : World) (hr : Kd.C kQ w A n t.c) :
    Calls Try.prog 35 #[.agg #[.slice A n cap, .int .i64 t.k.n, .int .i64 t.k.d]] w fun e w' => e = .returned (.bool (rightT t)) ∧ Below w.heap.size w w' := by
  subst hn; exact TRight_calls t A cap hw w hr
set_option maxHeartbeats 4000000 in
theorem Scale_calls (t : T) (q : Q) (A : Option Addr) (cap n : Nat) (hn : t.c.length = n) (hw : t.wf) (hq : q.wf) (w : World) (hr : Kd.C kQ w A n t.c) :
    Calls Try.prog 52 #[.agg #[.slice A n cap, .int .i64 t.k.n, .int .i64 t.k.d], .agg #[.int .i64 q.n, .int .i64 q.d]] w fun e w' => RetT w w' e (scaleS t q) ∧ Below w.heap.size w w' := by
  have HT := Lib.hid fun W hb => TRight_calls' t A cap n hn hw W (Kd.C_below (w1 := W) hr hb)
  have HQ := Lib.hid fun W => Right_calls q.n q.d hq.1.1 hq.1.2 hq.2.1 hq.2.2 W
  have h8 : rightT t = true → n ≤ 8 := fun h => by simp only [rightT, Bool.and_eq_true, decide_eq_true_eq] at h; omega
  have HS := Lib.hid fun i W b1 b2 h1 h2 hb => Scale1_calls t q A cap n i hn hw hq b1 b2 W h1 h2 (Kd.C_below hr hb)
  have e0 : rightT t = false → scaleS t q = (⟨[], ⟨0, 0⟩⟩, 2) := fun h => by simp [scaleS, h]
  have e1 : rightB q = false → scaleS t q = (⟨[], ⟨0, 0⟩⟩, 2) := fun h => by simp [scaleS, h]
  have e2 : rightT t = true → rightB q = true → scaleS t q = eachS n (fun i => mulS (oneT t i) q) := fun h h' => by simp [scaleS, h, h', hn]
  obtain ⟨R, hR⟩ : ∃ R, scaleS t q = R := ⟨_, rfl⟩
  rw [hR] at e0 e1 e2 ⊢
  obtain ⟨F, hF⟩ : ∃ F, (fun i => mulS (oneT t i) q) = F := ⟨_, rfl⟩
  have hFi : ∀ i, mulS (oneT t i) q = F i := fun i => by rw [← hF]
  rw [hF] at e2
  simp only [hFi] at HS
  obtain ⟨qn, qd⟩ := q
  dsimp only at *
  obtain ⟨rT, hrT⟩ : ∃ b, rightT t = b := ⟨_, rfl⟩
  obtain ⟨rQ, hrQ⟩ : ∃ b, rightB ⟨qn, qd⟩ = b := ⟨_, rfl⟩
  rw [hrT] at HT e0 e2 h8
  rw [hrQ] at HQ e1 e2
  obtain ⟨l, kn, kd⟩ := t
  dsimp only at *
  clear hr hw hq hR hF hFi hrT hrQ hn
  cases rT
  · have E := Lib.hid (e0 rfl)
    clear e0 e1 e2 h8
    go_enter Try.func52, Try.ntmps52
    go_wp2_with fail
    refine (HT.out _ (by repeat (first | exact Below.refl _ _ | assumption | exact Hid.out (by assumption) | (with_reducible first | refine bw_drewN ?_ _ | refine bw_alloc ?_ _ | refine bw_drew ?_) | (refine bw_set ?_ (by first | exact Nat.le_refl _ | (simp; done) | (simp; omega) | omega) _)))).mono ?_
    rintro e w1 ⟨rfl, hw1⟩
    have B1 : Below w.heap.size w w1 := bw_then (by repeat (first | exact Below.refl _ _ | assumption | exact Hid.out (by assumption) | (with_reducible first | refine bw_drewN ?_ _ | refine bw_alloc ?_ _ | refine bw_drew ?_) | (refine bw_set ?_ (by first | exact Nat.le_refl _ | (simp; done) | (simp; omega) | omega) _))) hw1
    have R1 : w1.heap[w.heap.size + 1 + 1]? = some (.cells #[.slice none 0 0, .int .i64 0, .int .i64 0] 39 (0, 0)) := blk_below (blk_new' (by simp)) hw1
    have R1_c0 : w1.cell? ⟨w.heap.size + 1 + 1, 0, none⟩ = some (.slice none 0 0) := blk_cell R1 0; have R1_f0 : w1.frozen? ⟨w.heap.size + 1 + 1, 0, none⟩ = false := blk_frozen R1 0; have R1_c1 : w1.cell? ⟨w.heap.size + 1 + 1, 1, none⟩ = some (.int .i64 0) := blk_cell R1 1; have R1_f1 : w1.frozen? ⟨w.heap.size + 1 + 1, 1, none⟩ = false := blk_frozen R1 1; have R1_c2 : w1.cell? ⟨w.heap.size + 1 + 1, 2, none⟩ = some (.int .i64 0) := blk_cell R1 2; have R1_f2 : w1.frozen? ⟨w.heap.size + 1 + 1, 2, none⟩ = false := blk_frozen R1 2
    have hz1 : w.heap.size + 1 + 1 < w1.heap.size := by have := hw1.size; simp at this; omega
    go_wp2_with fail
    refine bodyPost_ret (results_ct rfl _ _ (w.heap.size + 1 + 1) 39 #[.slice none 0 0, .int .i64 0, .int .i64 0] (0, 0) _ rfl (blk3 R1) Try.underlying39 rfl (by kernel_rfl)) rfl ?_
    rw [E.out]
    exact ⟨RetT.zero rfl rfl, (by repeat (first | exact Below.refl _ _ | assumption | exact Hid.out (by assumption) | (with_reducible first | refine bw_drewN ?_ _ | refine bw_alloc ?_ _ | refine bw_drew ?_) | (refine bw_set ?_ (by first | exact Nat.le_refl _ | (simp; done) | (simp; omega) | omega) _)))⟩
  · have h8' := h8 rfl
    have e3 := e2 rfl
    clear e0 e2 h8
    go_enter Try.func52, Try.ntmps52
    go_wp2_with fail
    refine (HT.out _ (by repeat (first | exact Below.refl _ _ | assumption | exact Hid.out (by assumption) | (with_reducible first | refine bw_drewN ?_ _ | refine bw_alloc ?_ _ | refine bw_drew ?_) | (refine bw_set ?_ (by first | exact Nat.le_refl _ | (simp; done) | (simp; omega) | omega) _)))).mono ?_
    rintro e w1 ⟨rfl, hw1⟩
    have B1 : Below w.heap.size w w1 := bw_then (by repeat (first | exact Below.refl _ _ | assumption | exact Hid.out (by assumption) | (with_reducible first | refine bw_drewN ?_ _ | refine bw_alloc ?_ _ | refine bw_drew ?_) | (refine bw_set ?_ (by first | exact Nat.le_refl _ | (simp; done) | (simp; omega) | omega) _))) hw1
    have R1 : w1.heap[w.heap.size + 1 + 1]? = some (.cells #[.slice none 0 0, .int .i64 0, .int .i64 0] 39 (0, 0)) := blk_below (blk_new' (by simp)) hw1
    have T1 : w1.heap[w.heap.size]? = some (.cells #[.slice A n cap, .int .i64 kn, .int .i64 kd] 39 (0, 0)) := blk_below (blk_alloc (blk_alloc (blk_new _ _) _) _) hw1
    have Q1 : w1.heap[w.heap.size + 1]? = some (.cells #[.int .i64 qn, .int .i64 qd] 36 (0, 0)) := blk_below (blk_alloc (blk_new' (by simp)) _) hw1
    have Q1_c0 : w1.cell? ⟨w.heap.size + 1, 0, none⟩ = some (.int .i64 qn) := blk_cell Q1 0; have Q1_f0 : w1.frozen? ⟨w.heap.size + 1, 0, none⟩ = false := blk_frozen Q1 0; have Q1_c1 : w1.cell? ⟨w.heap.size + 1, 1, none⟩ = some (.int .i64 qd) := blk_cell Q1 1; have Q1_f1 : w1.frozen? ⟨w.heap.size + 1, 1, none⟩ = false := blk_frozen Q1 1
    have hz1 : w.heap.size + 1 + 1 < w1.heap.size := by have := hw1.size; simp at this; omega
    have E3 := Lib.hid e3
    have E1 := Lib.hid e1
    clear e3 e1
    go_wp2_with fail
    refine (HQ.out _).mono ?_
    rintro e w2 ⟨rfl, hw2⟩
    have B2 : Below w.heap.size w w2 := bw_then B1 hw2
    have R2 := blk_below R1 hw2
    have T2 := blk_below T1 hw2
    have Q2 := blk_below Q1 hw2
    have hz2 : w.heap.size + 1 + 1 < w2.heap.size := Nat.lt_of_lt_of_le hz1 hw2.size
    cases rQ
    · have E := Lib.hid (E1.out rfl)
      have R2_c0 : w2.cell? ⟨w.heap.size + 1 + 1, 0, none⟩ = some (.slice none 0 0) := blk_cell R2 0; have R2_f0 : w2.frozen? ⟨w.heap.size + 1 + 1, 0, none⟩ = false := blk_frozen R2 0; have R2_c1 : w2.cell? ⟨w.heap.size + 1 + 1, 1, none⟩ = some (.int .i64 0) := blk_cell R2 1; have R2_f1 : w2.frozen? ⟨w.heap.size + 1 + 1, 1, none⟩ = false := blk_frozen R2 1; have R2_c2 : w2.cell? ⟨w.heap.size + 1 + 1, 2, none⟩ = some (.int .i64 0) := blk_cell R2 2; have R2_f2 : w2.frozen? ⟨w.heap.size + 1 + 1, 2, none⟩ = false := blk_frozen R2 2
      go_wp2_with fail
      refine bodyPost_ret (results_ct rfl _ _ (w.heap.size + 1 + 1) 39 #[.slice none 0 0, .int .i64 0, .int .i64 0] (0, 0) _ rfl (blk3 R2) Try.underlying39 rfl (by kernel_rfl)) rfl ?_
      rw [E.out]
      exact ⟨RetT.zero rfl rfl, (by repeat (first | exact Below.refl _ _ | assumption | exact Hid.out (by assumption) | (with_reducible first | refine bw_drewN ?_ _ | refine bw_alloc ?_ _ | refine bw_drew ?_) | (refine bw_set ?_ (by first | exact Nat.le_refl _ | (simp; done) | (simp; omega) | omega) _)))⟩
    · have E := Lib.hid (E3.out rfl)
      have T2_c0 : w2.cell? ⟨w.heap.size, 0, none⟩ = some (.slice A n cap) := blk_cell T2 0; have T2_f0 : w2.frozen? ⟨w.heap.size, 0, none⟩ = false := blk_frozen T2 0; have T2_c1 : w2.cell? ⟨w.heap.size, 1, none⟩ = some (.int .i64 kn) := blk_cell T2 1; have T2_f1 : w2.frozen? ⟨w.heap.size, 1, none⟩ = false := blk_frozen T2 1; have T2_c2 : w2.cell? ⟨w.heap.size, 2, none⟩ = some (.int .i64 kd) := blk_cell T2 2; have T2_f2 : w2.frozen? ⟨w.heap.size, 2, none⟩ = false := blk_frozen T2 2
      go_wp2_with fail
      refine (eachScale_calls n (by omega) F (w.heap.size) (w.heap.size + 1) w2 (Lib.hid fun i _ _ W hb => HS.out i W _ _ (blk_below T2 hb) (blk_below Q2 hb) (bw_then B2 hb))).mono ?_
      rw [← E.out]
      obtain ⟨⟨rl, rn, rd⟩, re⟩ := R
      rintro e w3 ⟨_, rfl, ⟨A3, c3, rfl, hc3, hF3⟩, hw3⟩
      dsimp only at *
      obtain ⟨m, hm⟩ : ∃ m, rl.length = m := ⟨_, rfl⟩
      rw [hm] at hc3 hF3 ⊢
      have HM := Lib.hid hm
      have HF3 := Lib.hid hF3
      clear hm hF3
      have B3 : Below w.heap.size w w3 := bw_then B2 hw3
      have R3 := blk_below R2 hw3
      have R3_c0 : w3.cell? ⟨w.heap.size + 1 + 1, 0, none⟩ = some (.slice none 0 0) := blk_cell R3 0; have R3_f0 : w3.frozen? ⟨w.heap.size + 1 + 1, 0, none⟩ = false := blk_frozen R3 0; have R3_c1 : w3.cell? ⟨w.heap.size + 1 + 1, 1, none⟩ = some (.int .i64 0) := blk_cell R3 1; have R3_f1 : w3.frozen? ⟨w.heap.size + 1 + 1, 1, none⟩ = false := blk_frozen R3 1; have R3_c2 : w3.cell? ⟨w.heap.size + 1 + 1, 2, none⟩ = some (.int .i64 0) := blk_cell R3 2; have R3_f2 : w3.frozen? ⟨w.heap.size + 1 + 1, 2, none⟩ = false := blk_frozen R3 2
      have hz3 : w.heap.size + 1 + 1 < w3.heap.size := Nat.lt_of_lt_of_le hz2 hw3.size
      go_wp2_with fail
      refine bodyPost_ret (results_ct rfl _ _ (w.heap.size + 1 + 1) 39 #[.slice A3 m c3, .int .i64 rn, .int .i64 rd] (0, 0) _ rfl (blk3 R3) Try.underlying39 rfl (by kernel_rfl)) rfl ?_
      exact ⟨⟨A3, c3, m, rfl, HM.out, hc3, F_put HF3.out B2.size hz2⟩, (by repeat (first | exact Below.refl _ _ | assumption | exact Hid.out (by assumption) | (with_reducible first | refine bw_drewN ?_ _ | refine bw_alloc ?_ _ | refine bw_drew ?_) | (refine bw_set ?_ (by first | exact Nat.le_refl _ | (simp; done) | (simp; omega) | omega) _)))⟩
theorem mx_nat (a b : Nat) : mx (a : Int) (b : Int) = ((max a b : Nat) : Int) := by unfold mx; split <;> omega
attribute [local go_sem] max2_int
set_option maxHeartbeats 4000000 in
theorem TAdd_calls (t u : T) (A A' : Option Addr) (cap cap' n n' : Nat) (hn : t.c.length = n) (hn' : u.c.length = n') (hw : t.wf) (hw' : u.wf) (w : World) (hr : Kd.C kQ w A n t.c) (hr' : Kd.C kQ w A' n' u.c) :
    Calls Try.prog 98 #[.agg #[.slice A n cap, .int .i64 t.k.n, .int .i64 t.k.d], .agg #[.slice A' n' cap', .int .i64 u.k.n, .int .i64 u.k.d]] w fun e w' => RetT w w' e (addTS t u) ∧ Below w.heap.size w w' := by
  have HT := Lib.hid fun W hb => TRight_calls' t A cap n hn hw W (Kd.C_below (w1 := W) hr hb)
  have HQ := Lib.hid fun W hb => TRight_calls' u A' cap' n' hn' hw' W (Kd.C_below (w1 := W) hr' hb)
  have h8 : rightT t = true → n ≤ 8 := fun h => by simp only [rightT, Bool.and_eq_true, decide_eq_true_eq] at h; omega
  have h8' : rightT u = true → n' ≤ 8 := fun h => by simp only [rightT, Bool.and_eq_true, decide_eq_true_eq] at h; omega
  have HS : Hid (rightT t = true → rightT u = true → ∀ i W b1 b2, W.heap[b1]? = some (.cells #[.slice A n cap, .int .i64 t.k.n, .int .i64 t.k.d] 39 (0, 0)) → W.heap[b2]? = some (.cells #[.slice A' n' cap', .int .i64 u.k.n, .int .i64 u.k.d] 39 (0, 0)) → Below w.heap.size w W →
    Calls Try.prog 122 #[.int .i64 i, .pointer (some ⟨b1, 0, none⟩), .pointer (some ⟨b2, 0, none⟩)] W fun e w' => e = qe (addS (oneT t i) (oneT u i)) ∧ Below W.heap.size W w') :=
    Lib.hid fun ht hu i W b1 b2 h1 h2 hb => Add1_calls t u A A' cap cap' n n' i hn hn' hw hw' ht hu b1 b2 W h1 h2 (Kd.C_below hr hb) (Kd.C_below hr' hb)
  have e0 : rightT t = false → addTS t u = (⟨[], ⟨0, 0⟩⟩, 2) := fun h => by simp [addTS, h]
  have e1 : rightT u = false → addTS t u = (⟨[], ⟨0, 0⟩⟩, 2) := fun h => by simp [addTS, h]
  have e2 : rightT t = true → rightT u = true → addTS t u = eachS (max n n') (fun i => addS (oneT t i) (oneT u i)) := fun h h' => by simp [addTS, h, h', hn, hn']
  obtain ⟨R, hR⟩ : ∃ R, addTS t u = R := ⟨_, rfl⟩
  rw [hR] at e0 e1 e2 ⊢
  obtain ⟨F, hF⟩ : ∃ F, (fun i => addS (oneT t i) (oneT u i)) = F := ⟨_, rfl⟩
  have hFi : ∀ i, addS (oneT t i) (oneT u i) = F i := fun i => by rw [← hF]
  rw [hF] at e2
  simp only [hFi] at HS
  obtain ⟨rT, hrT⟩ : ∃ b, rightT t = b := ⟨_, rfl⟩
  obtain ⟨rQ, hrQ⟩ : ∃ b, rightT u = b := ⟨_, rfl⟩
  rw [hrT] at HT e0 e2 h8 HS
  rw [hrQ] at HQ e1 e2 h8' HS
  obtain ⟨l, kn, kd⟩ := t
  obtain ⟨l', kn', kd'⟩ := u
  dsimp only at *
  clear hr hr' hw hw' hR hF hFi hrT hrQ hn hn'
  cases rT
  · have E := Lib.hid (e0 rfl)
    clear e0 e1 e2 h8 h8' HS
    go_enter Try.func98, Try.ntmps98
    go_wp2_with fail
    refine (HT.out _ (by repeat (first | exact Below.refl _ _ | assumption | exact Hid.out (by assumption) | (with_reducible first | refine bw_drewN ?_ _ | refine bw_alloc ?_ _ | refine bw_drew ?_) | (refine bw_set ?_ (by first | exact Nat.le_refl _ | (simp; done) | (simp; omega) | omega) _)))).mono ?_
    rintro e w1 ⟨rfl, hw1⟩
    have B1 : Below w.heap.size w w1 := bw_then (by repeat (first | exact Below.refl _ _ | assumption | exact Hid.out (by assumption) | (with_reducible first | refine bw_drewN ?_ _ | refine bw_alloc ?_ _ | refine bw_drew ?_) | (refine bw_set ?_ (by first | exact Nat.le_refl _ | (simp; done) | (simp; omega) | omega) _))) hw1
    have R1 : w1.heap[w.heap.size + 1 + 1]? = some (.cells #[.slice none 0 0, .int .i64 0, .int .i64 0] 39 (0, 0)) := blk_below (blk_new' (by simp)) hw1
    have R1_c0 : w1.cell? ⟨w.heap.size + 1 + 1, 0, none⟩ = some (.slice none 0 0) := blk_cell R1 0; have R1_f0 : w1.frozen? ⟨w.heap.size + 1 + 1, 0, none⟩ = false := blk_frozen R1 0; have R1_c1 : w1.cell? ⟨w.heap.size + 1 + 1, 1, none⟩ = some (.int .i64 0) := blk_cell R1 1; have R1_f1 : w1.frozen? ⟨w.heap.size + 1 + 1, 1, none⟩ = false := blk_frozen R1 1; have R1_c2 : w1.cell? ⟨w.heap.size + 1 + 1, 2, none⟩ = some (.int .i64 0) := blk_cell R1 2; have R1_f2 : w1.frozen? ⟨w.heap.size + 1 + 1, 2, none⟩ = false := blk_frozen R1 2
    have hz1 : w.heap.size + 1 + 1 < w1.heap.size := by have := hw1.size; simp at this; omega
    go_wp2_with fail
    refine bodyPost_ret (results_ct rfl _ _ (w.heap.size + 1 + 1) 39 #[.slice none 0 0, .int .i64 0, .int .i64 0] (0, 0) _ rfl (blk3 R1) Try.underlying39 rfl (by kernel_rfl)) rfl ?_
    rw [E.out]
    exact ⟨RetT.zero rfl rfl, (by repeat (first | exact Below.refl _ _ | assumption | exact Hid.out (by assumption) | (with_reducible first | refine bw_drewN ?_ _ | refine bw_alloc ?_ _ | refine bw_drew ?_) | (refine bw_set ?_ (by first | exact Nat.le_refl _ | (simp; done) | (simp; omega) | omega) _)))⟩
  · have h8a := h8 rfl
    have e3 := e2 rfl
    clear e0 e2 h8
    go_enter Try.func98, Try.ntmps98
    go_wp2_with fail
    refine (HT.out _ (by repeat (first | exact Below.refl _ _ | assumption | exact Hid.out (by assumption) | (with_reducible first | refine bw_drewN ?_ _ | refine bw_alloc ?_ _ | refine bw_drew ?_) | (refine bw_set ?_ (by first | exact Nat.le_refl _ | (simp; done) | (simp; omega) | omega) _)))).mono ?_
    rintro e w1 ⟨rfl, hw1⟩
    have B1 : Below w.heap.size w w1 := bw_then (by repeat (first | exact Below.refl _ _ | assumption | exact Hid.out (by assumption) | (with_reducible first | refine bw_drewN ?_ _ | refine bw_alloc ?_ _ | refine bw_drew ?_) | (refine bw_set ?_ (by first | exact Nat.le_refl _ | (simp; done) | (simp; omega) | omega) _))) hw1
    have R1 : w1.heap[w.heap.size + 1 + 1]? = some (.cells #[.slice none 0 0, .int .i64 0, .int .i64 0] 39 (0, 0)) := blk_below (blk_new' (by simp)) hw1
    have T1 : w1.heap[w.heap.size]? = some (.cells #[.slice A n cap, .int .i64 kn, .int .i64 kd] 39 (0, 0)) := blk_below (blk_alloc (blk_alloc (blk_new _ _) _) _) hw1
    have Q1 : w1.heap[w.heap.size + 1]? = some (.cells #[.slice A' n' cap', .int .i64 kn', .int .i64 kd'] 39 (0, 0)) := blk_below (blk_alloc (blk_new' (by simp)) _) hw1
    have Q1_c0 : w1.cell? ⟨w.heap.size + 1, 0, none⟩ = some (.slice A' n' cap') := blk_cell Q1 0; have Q1_f0 : w1.frozen? ⟨w.heap.size + 1, 0, none⟩ = false := blk_frozen Q1 0; have Q1_c1 : w1.cell? ⟨w.heap.size + 1, 1, none⟩ = some (.int .i64 kn') := blk_cell Q1 1; have Q1_f1 : w1.frozen? ⟨w.heap.size + 1, 1, none⟩ = false := blk_frozen Q1 1; have Q1_c2 : w1.cell? ⟨w.heap.size + 1, 2, none⟩ = some (.int .i64 kd') := blk_cell Q1 2; have Q1_f2 : w1.frozen? ⟨w.heap.size + 1, 2, none⟩ = false := blk_frozen Q1 2
    have hz1 : w.heap.size + 1 + 1 < w1.heap.size := by have := hw1.size; simp at this; omega
    have E3 := Lib.hid e3
    have E1 := Lib.hid e1
    clear e3 e1
    go_wp2_with fail
    refine (HQ.out _ B1).mono ?_
    rintro e w2 ⟨rfl, hw2⟩
    have B2 : Below w.heap.size w w2 := bw_then B1 hw2
    have R2 := blk_below R1 hw2
    have T2 := blk_below T1 hw2
    have Q2 := blk_below Q1 hw2
    have hz2 : w.heap.size + 1 + 1 < w2.heap.size := Nat.lt_of_lt_of_le hz1 hw2.size
    cases rQ
    · have E := Lib.hid (E1.out rfl)
      have R2_c0 : w2.cell? ⟨w.heap.size + 1 + 1, 0, none⟩ = some (.slice none 0 0) := blk_cell R2 0; have R2_f0 : w2.frozen? ⟨w.heap.size + 1 + 1, 0, none⟩ = false := blk_frozen R2 0; have R2_c1 : w2.cell? ⟨w.heap.size + 1 + 1, 1, none⟩ = some (.int .i64 0) := blk_cell R2 1; have R2_f1 : w2.frozen? ⟨w.heap.size + 1 + 1, 1, none⟩ = false := blk_frozen R2 1; have R2_c2 : w2.cell? ⟨w.heap.size + 1 + 1, 2, none⟩ = some (.int .i64 0) := blk_cell R2 2; have R2_f2 : w2.frozen? ⟨w.heap.size + 1 + 1, 2, none⟩ = false := blk_frozen R2 2
      go_wp2_with fail
      refine bodyPost_ret (results_ct rfl _ _ (w.heap.size + 1 + 1) 39 #[.slice none 0 0, .int .i64 0, .int .i64 0] (0, 0) _ rfl (blk3 R2) Try.underlying39 rfl (by kernel_rfl)) rfl ?_
      rw [E.out]
      exact ⟨RetT.zero rfl rfl, (by repeat (first | exact Below.refl _ _ | assumption | exact Hid.out (by assumption) | (with_reducible first | refine bw_drewN ?_ _ | refine bw_alloc ?_ _ | refine bw_drew ?_) | (refine bw_set ?_ (by first | exact Nat.le_refl _ | (simp; done) | (simp; omega) | omega) _)))⟩
    · have E := Lib.hid (E3.out rfl)
      have T2_c0 : w2.cell? ⟨w.heap.size, 0, none⟩ = some (.slice A n cap) := blk_cell T2 0; have T2_f0 : w2.frozen? ⟨w.heap.size, 0, none⟩ = false := blk_frozen T2 0; have T2_c1 : w2.cell? ⟨w.heap.size, 1, none⟩ = some (.int .i64 kn) := blk_cell T2 1; have T2_f1 : w2.frozen? ⟨w.heap.size, 1, none⟩ = false := blk_frozen T2 1; have T2_c2 : w2.cell? ⟨w.heap.size, 2, none⟩ = some (.int .i64 kd) := blk_cell T2 2; have T2_f2 : w2.frozen? ⟨w.heap.size, 2, none⟩ = false := blk_frozen T2 2
      have Q2_c0 : w2.cell? ⟨w.heap.size + 1, 0, none⟩ = some (.slice A' n' cap') := blk_cell Q2 0; have Q2_f0 : w2.frozen? ⟨w.heap.size + 1, 0, none⟩ = false := blk_frozen Q2 0; have Q2_c1 : w2.cell? ⟨w.heap.size + 1, 1, none⟩ = some (.int .i64 kn') := blk_cell Q2 1; have Q2_f1 : w2.frozen? ⟨w.heap.size + 1, 1, none⟩ = false := blk_frozen Q2 1; have Q2_c2 : w2.cell? ⟨w.heap.size + 1, 2, none⟩ = some (.int .i64 kd') := blk_cell Q2 2; have Q2_f2 : w2.frozen? ⟨w.heap.size + 1, 2, none⟩ = false := blk_frozen Q2 2
      have h8b := h8' rfl
      have HSS := Lib.hid (HS.out trivial rfl)
      obtain ⟨M, hM⟩ : ∃ M, max n n' = M := ⟨_, rfl⟩
      rw [hM] at E
      rcases Nat.lt_or_ge n n' with hmx | hmx
      all_goals
        first | (have hM2 : M = n' := (by omega); subst hM2) | (have hM2 : M = n := (by omega); subst hM2)
        clear hM
        go_wp2_with fail
        refine (eachAdd_calls _ (by omega) F (w.heap.size) (w.heap.size + 1) w2 (Lib.hid fun i _ _ W hb => HSS.out i W _ _ (blk_below T2 hb) (blk_below Q2 hb) (bw_then B2 hb))).mono ?_
        rw [← E.out]
        obtain ⟨⟨rl, rn, rd⟩, re⟩ := R
        rintro e w3 ⟨_, rfl, ⟨A3, c3, rfl, hc3, hF3⟩, hw3⟩
        dsimp only at *
        obtain ⟨m, hm⟩ : ∃ m, rl.length = m := ⟨_, rfl⟩
        rw [hm] at hc3 hF3 ⊢
        have HM := Lib.hid hm
        have HF3 := Lib.hid hF3
        clear hm hF3
        have B3 : Below w.heap.size w w3 := bw_then B2 hw3
        have R3 := blk_below R2 hw3
        have R3_c0 : w3.cell? ⟨w.heap.size + 1 + 1, 0, none⟩ = some (.slice none 0 0) := blk_cell R3 0; have R3_f0 : w3.frozen? ⟨w.heap.size + 1 + 1, 0, none⟩ = false := blk_frozen R3 0; have R3_c1 : w3.cell? ⟨w.heap.size + 1 + 1, 1, none⟩ = some (.int .i64 0) := blk_cell R3 1; have R3_f1 : w3.frozen? ⟨w.heap.size + 1 + 1, 1, none⟩ = false := blk_frozen R3 1; have R3_c2 : w3.cell? ⟨w.heap.size + 1 + 1, 2, none⟩ = some (.int .i64 0) := blk_cell R3 2; have R3_f2 : w3.frozen? ⟨w.heap.size + 1 + 1, 2, none⟩ = false := blk_frozen R3 2
        have hz3 : w.heap.size + 1 + 1 < w3.heap.size := Nat.lt_of_lt_of_le hz2 hw3.size
        go_wp2_with fail
        refine bodyPost_ret (results_ct rfl _ _ (w.heap.size + 1 + 1) 39 #[.slice A3 m c3, .int .i64 rn, .int .i64 rd] (0, 0) _ rfl (blk3 R3) Try.underlying39 rfl (by kernel_rfl)) rfl ?_
        exact ⟨⟨A3, c3, m, rfl, HM.out, hc3, F_put HF3.out B2.size hz2⟩, (by repeat (first | exact Below.refl _ _ | assumption | exact Hid.out (by assumption) | (with_reducible first | refine bw_drewN ?_ _ | refine bw_alloc ?_ _ | refine bw_drew ?_) | (refine bw_set ?_ (by first | exact Nat.le_refl _ | (simp; done) | (simp; omega) | omega) _)))⟩
end Go.Proofs.Ytffpdaejemmgpaa.W
