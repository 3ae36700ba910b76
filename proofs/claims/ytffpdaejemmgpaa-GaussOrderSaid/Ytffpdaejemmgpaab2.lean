/- This file holds the walk of the gauss laws' examples. -/
import Derived.Test.Ytffpdaejemmgpaab1
import Derived.Test.YtffpdaejemmgpaaWEqStruct
namespace Go.Proofs.Ytffpdaejemmgpaa.W
open Go.RowKit Go.Proofs.YtffpdaejemmgpaaW.PrintWords Go.Proofs.YtffpdaejemmgpaaW.PrintMore
set_option linter.unusedVariables false
set_option linter.unusedSimpArgs false
theorem eqRat (d : Nat) (w : World) (x0 x1 y0 y1 : Int) :
    (Op.equalIn (d + 2) 36 (.agg #[.int .i64 x0, .int .i64 x1]) (.agg #[.int .i64 y0, .int .i64 y1])).run Try.prog w = .ok (x0 == y0 && (x1 == y1)) w := by
  refine eqA_of Try.underlying36 (by kernel_rfl) ?_
  refine eqf_cons (by rfl) (by go_simp; rfl) (by go_simp; rfl) (by go_simp) ?_
  exact eqf_last (by rfl) (by go_simp; rfl) (by go_simp; rfl) (by go_simp)
/-- One answer for one system. -/
theorem GSol.det {l : List T} {r r' : GOut} (h : GSol l r) (h' : GSol l r') (hw : ∀ t ∈ l, t.wf) : r = r' := by
  rcases h with ⟨a, e⟩ | ⟨a, b, e⟩ | ⟨a, b, R, hp, hs, e⟩ <;> rcases h' with ⟨a', e'⟩ | ⟨a', b', e'⟩ | ⟨a', b', R', hp', hs', e'⟩
  · rw [e, e']
  · rw [a] at a'; cases a'
  · rw [a] at a'; cases a'
  · rw [a] at a'; cases a'
  · rw [e, e']
  · rw [b] at b'; cases b'
  · rw [a] at a'; cases a'
  · rw [b] at b'; cases b'
  · have hI := solveN_inv (Inv.start l (badS_false a).2 hw) 8 b
    have hpp : R.Perm R' := hp.trans hp'.symm
    rw [e, e']
    unfold outOf
    have hany : (R.any fun y => y.b == -1 && y.t.k.n != 0) = (R'.any fun y => y.b == -1 && y.t.k.n != 0) := by
      rw [Bool.eq_iff_iff, List.any_eq_true, List.any_eq_true]
      constructor
      · rintro ⟨y, hy, h⟩; exact ⟨y, hpp.mem_iff.1 hy, h⟩
      · rintro ⟨y, hy, h⟩; exact ⟨y, hpp.mem_iff.2 hy, h⟩
    rw [hany]
    by_cases hb : (R'.any fun y => y.b == -1 && y.t.k.n != 0) = true
    · rw [if_pos hb, if_pos hb]
    · rw [if_neg hb, if_neg hb]
      rw [Bool.not_eq_true, List.any_eq_false] at hb
      have key : ∀ y, y ∈ R' → y.b = -1 → y.t.k.n = 0 := fun y hy h0 => by
        have := hb y hy
        simpa [h0] using this
      have h1 := hI.rr hp hs (fun y hy => key y (hpp.mem_iff.1 hy))
      have h2 := hI.rr hp' hs' key
      rw [h1.unique h2]
def exA : List T := [⟨[⟨1, 1⟩, ⟨1, 1⟩], ⟨-1, 1⟩⟩, ⟨[⟨1, 1⟩, ⟨-1, 1⟩], ⟨0, 1⟩⟩]
def exB : List T := [⟨[], ⟨1, 1⟩⟩]
def exO : GOut := ⟨[⟨[⟨1, 1⟩], ⟨-1, 2⟩⟩, ⟨[⟨0, 1⟩, ⟨1, 1⟩], ⟨-1, 2⟩⟩], [0, 1], 0⟩
theorem exA_sol : GSol exA exO := by
  refine .inr (.inr ⟨by decide +kernel, by decide +kernel, [⟨⟨[⟨1, 1⟩], ⟨-1, 2⟩⟩, 0⟩, ⟨⟨[⟨0, 1⟩, ⟨1, 1⟩], ⟨-1, 2⟩⟩, 1⟩], ?_, ?_, by rfl⟩)
  · rw [show (solveN (startS exA, false) 8).1 = [⟨⟨[⟨1, 1⟩], ⟨-1, 2⟩⟩, 0⟩, ⟨⟨[⟨0, 1⟩, ⟨1, 1⟩], ⟨-1, 2⟩⟩, 1⟩] by kernel_rfl]
  · simp
theorem exB_sol : GSol exB ⟨[], [], 1⟩ := by
  refine .inr (.inr ⟨by decide +kernel, by decide +kernel, [⟨⟨[], ⟨1, 1⟩⟩, -1⟩], ?_, ?_, by rfl⟩)
  · rw [show (solveN (startS exB, false) 8).1 = [⟨⟨[], ⟨1, 1⟩⟩, -1⟩] by kernel_rfl]
  · simp
theorem q1wf (n d : Int) (h : -2 ≤ n ∧ n ≤ 2) (h2 : -2 ≤ d ∧ d ≤ 2) : (⟨n, d⟩ : Q).wf := wf_mk (by omega) (by omega) (by omega) (by omega)
theorem exA_wf : ∀ t ∈ exA, t.wf := by
  intro t ht
  simp only [exA, List.mem_cons, List.mem_nil_iff, or_false] at ht
  rcases ht with rfl | rfl <;> refine ⟨fun q hq => ?_, q1wf _ _ (by decide) (by decide)⟩ <;> simp at hq <;> (try rcases hq with rfl | rfl) <;> exact q1wf _ _ (by decide) (by decide)
theorem exB_wf : ∀ t ∈ exB, t.wf := by
  intro t ht
  simp only [exB, List.mem_cons, List.mem_nil_iff, or_false] at ht
  rcases ht with rfl
  exact ⟨fun q hq => by simp at hq, q1wf _ _ (by decide) (by decide)⟩
theorem C_of_blk {α : Type} (d : Kd α) {W : World} {b : Nat} {t : TypeId} {CS : Array Value} {xs : List α} (hb : W.heap[b]? = some (.cells CS t (0, 0))) (hl : xs.length ≤ 9223372036854775807)
    (h : ∀ (j : Nat) (p : α), xs[j]? = some p → ∃ c : List Value, c.length = d.sz ∧ d.K W p c ∧ ∀ (i : Nat) (u : Value), c[i]? = some u → CS[j * d.sz + i]? = some u) : Kd.C d W (some ⟨b, 0, none⟩) xs.length xs := by
  refine ⟨rfl, hl, fun _ => ⟨_, rfl, fun j p hj => ?_⟩⟩
  obtain ⟨c, h1, h2, h3⟩ := h j p hj
  exact ⟨c, h1, h2, fun i u hi => by rw [add_plain, blk_cell hb]; exact h3 i u hi⟩
theorem four_at {CS : Array Value} {k : Nat} {a b : Value} (h0 : CS[k]? = some a) (h1 : CS[k + 1]? = some b) : ∀ (i : Nat) (u : Value), ([a, b] : List Value)[i]? = some u → CS[k + i]? = some u := by
  intro i u hi
  rcases i with _ | _ | i
  · simp at hi; subst hi; exact h0
  · simp at hi; subst hi; exact h1
  · simp at hi
theorem three_at {CS : Array Value} {k : Nat} {a b c : Value} (h0 : CS[k]? = some a) (h1 : CS[k + 1]? = some b) (h2 : CS[k + 2]? = some c) : ∀ (i : Nat) (u : Value), ([a, b, c] : List Value)[i]? = some u → CS[k + i]? = some u := by
  intro i u hi
  rcases i with _ | _ | _ | i
  · simp at hi; subst hi; exact h0
  · simp at hi; subst hi; exact h1
  · simp at hi; subst hi; exact h2
  · simp at hi
theorem CQ2 {W : World} (b : Nat) (t : TypeId) (qn qd rn rd : Int) (hb : W.heap[b]? = some (.cells #[.int .i64 qn, .int .i64 qd, .int .i64 rn, .int .i64 rd] t (0, 0))) : Kd.C kQ W (some ⟨b, 0, none⟩) 2 [⟨qn, qd⟩, ⟨rn, rd⟩] := by
  refine C_of_blk kQ (xs := [⟨qn, qd⟩, ⟨rn, rd⟩]) hb (by simp) (fun j p hj => ⟨_, rfl, kQ_mk W p, ?_⟩)
  rcases j with _ | _ | j
  · simp at hj; subst hj; exact four_at rfl rfl
  · simp at hj; subst hj; exact four_at rfl rfl
  · simp at hj
theorem CT2 {W : World} (b : Nat) (t : TypeId) (l l' : List Q) (xn xd yn yd : Int) (B B' : Option Addr) (m m' c c' : Nat) (hb : W.heap[b]? = some (.cells #[.slice B m c, .int .i64 xn, .int .i64 xd, .slice B' m' c', .int .i64 yn, .int .i64 yd] t (0, 0)))
    (h1 : l.length = m) (h2 : m ≤ c) (h3 : Kd.C kQ W B m l) (h1' : l'.length = m') (h2' : m' ≤ c') (h3' : Kd.C kQ W B' m' l') : Kd.C kT W (some ⟨b, 0, none⟩) 2 [⟨l, ⟨xn, xd⟩⟩, ⟨l', ⟨yn, yd⟩⟩] := by
  refine C_of_blk kT (xs := [⟨l, ⟨xn, xd⟩⟩, ⟨l', ⟨yn, yd⟩⟩]) hb (by simp) (fun j p hj => ?_)
  rcases j with _ | _ | j
  · simp at hj; subst hj; exact ⟨_, rfl, kT_mk h1 h2 h3, three_at rfl rfl rfl⟩
  · simp at hj; subst hj; exact ⟨_, rfl, kT_mk h1' h2' h3', three_at rfl rfl rfl⟩
  · simp at hj
theorem CT1 {W : World} (b : Nat) (t : TypeId) (l : List Q) (xn xd : Int) (B : Option Addr) (m c : Nat) (hb : W.heap[b]? = some (.cells #[.slice B m c, .int .i64 xn, .int .i64 xd] t (0, 0)))
    (h1 : l.length = m) (h2 : m ≤ c) (h3 : Kd.C kQ W B m l) : Kd.C kT W (some ⟨b, 0, none⟩) 1 [⟨l, ⟨xn, xd⟩⟩] := by
  refine C_of_blk kT (xs := [⟨l, ⟨xn, xd⟩⟩]) hb (by simp) (fun j p hj => ?_)
  rcases j with _ | j
  · simp at hj; subst hj; exact ⟨_, rfl, kT_mk h1 h2 h3, three_at rfl rfl rfl⟩
  · simp at hj
theorem CQ0 (W : World) : Kd.C kQ W none 0 [] := ⟨rfl, by decide, fun h => absurd h (Nat.lt_irrefl 0)⟩
theorem smallS_len {l : List T} (h : smallS l = true) : l.length ≤ 12 := by
  simp only [smallS, Bool.and_eq_true, decide_eq_true_eq] at h; exact h.2
theorem six_cells {wr W1 : World} {B : Nat} {a0 a1 a2 a3 : Addr} {v0 v1 v2 v3 z0 z1 : Value} {t : TypeId} (hb : Below wr.heap.size wr W1) (h0 : wr.cell? a0 = some v0) (h1 : wr.cell? a1 = some v1) (h2 : wr.cell? a2 = some v2) (h3 : wr.cell? a3 = some v3) (hz : W1.heap[B]? = some (.cells #[z0, z1] t (0, 0))) :
    W1.cell? a0 = some v0 ∧ W1.cell? a1 = some v1 ∧ W1.cell? a2 = some v2 ∧ W1.cell? a3 = some v3 ∧ W1.cell? ⟨B, 0, none⟩ = some z0 ∧ W1.cell? ⟨B, 1, none⟩ = some z1 :=
  ⟨pw_cell_below hb h0, pw_cell_below hb h1, pw_cell_below hb h2, pw_cell_below hb h3, blk_cell hz 0, blk_cell hz 1⟩
theorem six_below {w W1 : World} {a0 a1 a2 a3 a4 a5 : Addr} {v0 v1 v2 v3 v4 v5 : Value} (hb : Below w.heap.size w W1) (h : w.cell? a0 = some v0 ∧ w.cell? a1 = some v1 ∧ w.cell? a2 = some v2 ∧ w.cell? a3 = some v3 ∧ w.cell? a4 = some v4 ∧ w.cell? a5 = some v5) :
    W1.cell? a0 = some v0 ∧ W1.cell? a1 = some v1 ∧ W1.cell? a2 = some v2 ∧ W1.cell? a3 = some v3 ∧ W1.cell? a4 = some v4 ∧ W1.cell? a5 = some v5 :=
  ⟨pw_cell_below hb h.1, pw_cell_below hb h.2.1, pw_cell_below hb h.2.2.1, pw_cell_below hb h.2.2.2.1, pw_cell_below hb h.2.2.2.2.1, pw_cell_below hb h.2.2.2.2.2⟩
attribute [local go_sem high] eqRat
set_option maxRecDepth 8000 in
set_option maxHeartbeats 4000000 in
theorem awake3_calls (w : World) : Calls Try.prog 14 #[] w fun e w' => e = .returned (.bool true) ∧ Below w.heap.size w w' := by
  go_enter Try.func14, Try.ntmps14
  go_wp2_with fail
  refine (gaussSolve_calls _ 2 2 exA rfl (by omega) exA_wf _ (CT2 (w.heap.size + 1 + 1 + 1 + 1) 39 [⟨1, 1⟩, ⟨1, 1⟩] [⟨1, 1⟩, ⟨-1, 1⟩] (-1) 1 0 1 (some ⟨w.heap.size + 1 + 1, 0, none⟩) (some ⟨w.heap.size + 1 + 1 + 1, 0, none⟩) 2 2 2 2 (by repeat (with_reducible (first | exact blk_new' (by simp) | refine blk_drewN ?_ _ | refine blk_drew ?_ | refine blk_alloc ?_ _))) rfl (Nat.le_refl 2) (CQ2 (w.heap.size + 1 + 1) 36 1 1 1 1 (by repeat (with_reducible (first | exact blk_new' (by simp) | refine blk_drewN ?_ _ | refine blk_drew ?_ | refine blk_alloc ?_ _)))) rfl (Nat.le_refl 2) (CQ2 (w.heap.size + 1 + 1 + 1) 36 1 1 (-1) 1 (by repeat (with_reducible (first | exact blk_new' (by simp) | refine blk_drewN ?_ _ | refine blk_drew ?_ | refine blk_alloc ?_ _)))))).mono ?_
  rintro e w1 ⟨⟨r, hG, A', B', n', c', m', d', rfl, hl, hc, hC, hl', hc', hC'⟩, hw1⟩
  obtain rfl := hG.det exA_sol exA_wf
  have B1 : Below w.heap.size w w1 := bw_then (by repeat (first | exact Below.refl _ _ | assumption | exact Hid.out (by assumption) | (with_reducible first | refine bw_drewN ?_ _ | refine bw_alloc ?_ _ | refine bw_drew ?_) | (refine bw_set ?_ (by first | exact Nat.le_refl _ | (simp; done) | (simp; omega) | omega) _))) hw1
  obtain rfl : n' = 2 := hl.symm
  obtain rfl : m' = 2 := hl'.symm
  have HC' := Lib.hid hC'
  have HCC := Lib.hid hC
  have T1 : w1.heap[w.heap.size]? = some (.cells #[.int .i64 1, .int .i64 1] 36 (0, 0)) := blk_below (by repeat (with_reducible (first | exact blk_new' (by simp) | refine blk_drewN ?_ _ | refine blk_drew ?_ | refine blk_alloc ?_ _))) hw1
  have T1_c0 : w1.cell? ⟨w.heap.size, 0, none⟩ = some (.int .i64 1) := blk_cell T1 0; have T1_f0 : w1.frozen? ⟨w.heap.size, 0, none⟩ = false := blk_frozen T1 0; have T1_c1 : w1.cell? ⟨w.heap.size, 1, none⟩ = some (.int .i64 1) := blk_cell T1 1; have T1_f1 : w1.frozen? ⟨w.heap.size, 1, none⟩ = false := blk_frozen T1 1
  have hz1 : w.heap.size + 4 < w1.heap.size := by have := hw1.size; simp at this; omega
  clear hG hl hl' hC hC' T1
  rw [show exO.s = (0 : Int) from rfl]
  go_wp2_with fail
  refine (gaussSolve_calls _ 1 1 exB rfl (by omega) exB_wf _ (CT1 w1.heap.size 39 [] 1 1 none 0 0 (by repeat (with_reducible (first | exact blk_new' (by simp) | refine blk_drewN ?_ _ | refine blk_drew ?_ | refine blk_alloc ?_ _))) rfl (Nat.le_refl 0) (CQ0 _))).mono ?_
  rintro e w2 ⟨⟨r, hG, A2, B2, n2, c2, m2, d2, rfl, hl, hc, hC, hl', hc', hC'⟩, hw2⟩
  obtain rfl := hG.det exB_sol exB_wf
  have B12 : Below w1.heap.size w1 w2 := bw_then (by repeat (first | exact Below.refl _ _ | assumption | exact Hid.out (by assumption) | (with_reducible first | refine bw_drewN ?_ _ | refine bw_alloc ?_ _ | refine bw_drew ?_) | (refine bw_set ?_ (by first | exact Nat.le_refl _ | (simp; done) | (simp; omega) | omega) _))) hw2
  have B2 : Below w.heap.size w w2 := bw_then B1 B12
  have HC2 := Lib.hid (Kd.C_below HCC.out B12)
  have HF := Lib.hid fun W hb => Free_calls B' 2 d' [0, 1] rfl W (Kd.C_below (w1 := W) (Kd.C_below HC'.out B12) hb)
  obtain ⟨ad, Bx, mx, cx, rfl, p0, p1, p2, -, -, -⟩ := kT_at HC2.out 0 (by decide)
  obtain ⟨ad', By, my, cy, e', q0, q1, q2, -, -, -⟩ := kT_at HC2.out 1 (by decide)
  injection e' with e'
  subst e'
  have ea : ad.add (0 * 3) = ad := by simp [Addr.add]
  rw [ea] at p0 p1 p2
  have eb : ad.add (1 * 3) = ⟨ad.block, ad.off + 3, none⟩ := by simp [Addr.add]
  rw [eb] at q0 q1 q2
  dsimp only at q1 q2
  have q3 : w2.cell? ⟨ad.block, ad.off + 3 + 1 + 1, none⟩ = _ := q2
  clear ea eb
  clear hG hl hc hC hl' hc' hC'
  dsimp only [exO, List.getD_eq_getElem?_getD, List.getElem?_cons_zero, Option.getD_some, List.getElem?_cons_succ] at p0 p1 p2 q0 q1 q2 q3
  dsimp only
  go_wp2_with fail
  refine (HF.out _ (Below.refl _ _)).mono ?_
  rintro e w3 ⟨⟨A3, c3, rfl, _⟩, hw3⟩
  rw [show (freeS [0, 1] 8).length = 6 from rfl]
  go_wp2_with fail
  go_ret
  exact ⟨rfl, bw_then B2 hw3⟩
end Go.Proofs.Ytffpdaejemmgpaa.W
