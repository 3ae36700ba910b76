/- This file holds the plain form of gauss.take and the change of a row. -/
import Derived.Test.YtffpdaejemmgpaaS
namespace Go.Proofs.Ytffpdaejemmgpaa.W
open Go.RowKit Go.Proofs.YtffpdaejemmgpaaW.PrintWords Go.Proofs.YtffpdaejemmgpaaW.PrintMore
set_option linter.unusedVariables false
set_option linter.unusedSimpArgs false
/-- The row by which it is taken, so many times. -/
def lessQ (q : Q) : Q := ⟨IntKind.i64.wrap (-q.n), q.d⟩
/-- One row less the pivot. -/
def stepS (at_ : Nat) (v : Int) (pv : T) (k : Nat) (s : List GR × Bool) : List GR × Bool :=
  match s.1[k]? with
  | none => s
  | some x =>
    if (decide (k = at_) || (atT x.t v).n == 0 || s.2) = true then s
    else if (scaleS pv (lessQ (atT x.t v))).2 != 0 then (s.1, true)
    else (s.1.set k ⟨(addTS x.t (scaleS pv (lessQ (atT x.t v))).1).1, x.b⟩, (addTS x.t (scaleS pv (lessQ (atT x.t v))).1).2 != 0)
def loopS (at_ : Nat) (v : Int) (pv : T) (s : List GR × Bool) : Nat → List GR × Bool
  | 0 => s
  | k + 1 => stepS at_ v pv k (loopS at_ v pv s k)
def takeS (at_ : Nat) (v : Int) (x : GR) (rows : List GR) : List GR × Bool :=
  loopS at_ v (scaleS x.t (mulS ⟨1, 1⟩ (flip (atT x.t v))).1).1
    (rows.set at_ ⟨(scaleS x.t (mulS ⟨1, 1⟩ (flip (atT x.t v))).1).1, v⟩, (mulS ⟨1, 1⟩ (flip (atT x.t v))).2 != 0 || (scaleS x.t (mulS ⟨1, 1⟩ (flip (atT x.t v))).1).2 != 0) rows.length
theorem putS_wf (n d : Nat) (m : Bool) : (putS n d m).1.wf := by
  unfold putS
  split
  · rename_i h
    refine wf_mk ?_ ?_ ?_ ?_ <;> (try dsimp only) <;> (try split) <;> omega
  · exact wf_mk (by decide) (by decide) (by decide) (by decide)
theorem mulS_wf (a b : Q) : (mulS a b).1.wf := by
  unfold mulS
  split
  · exact putS_wf _ _ _
  · exact wf_mk (by decide) (by decide) (by decide) (by decide)
theorem addS_wf (a b : Q) : (addS a b).1.wf := by
  unfold addS
  dsimp only
  split
  · exact wf_mk (by decide) (by decide) (by decide) (by decide)
  · split
    · exact wf_mk (by decide) (by decide) (by decide) (by decide)
    · exact putS_wf _ _ _
theorem eachS_wf (n : Nat) (f : Int → Q × Int) (h : ∀ i, (f i).1.wf) : (eachS n f).1.wf := by
  unfold eachS
  split
  · exact ⟨fun q hq => by simp at hq, wf_mk (by decide) (by decide) (by decide) (by decide)⟩
  · refine ⟨fun q hq => ?_, h _⟩
    have hq' := List.mem_of_mem_take hq
    obtain ⟨i, _, rfl⟩ := List.mem_map.1 hq'
    exact h _
theorem zeroT_wf : T.wf ⟨[], ⟨0, 0⟩⟩ := ⟨fun q hq => by simp at hq, wf_mk (by decide) (by decide) (by decide) (by decide)⟩
theorem scaleS_wf (t : T) (q : Q) : (scaleS t q).1.wf := by
  unfold scaleS
  split
  · exact eachS_wf _ _ fun i => mulS_wf _ _
  · exact zeroT_wf
theorem addTS_wf (t u : T) : (addTS t u).1.wf := by
  unfold addTS
  split
  · exact eachS_wf _ _ fun i => addS_wf _ _
  · exact zeroT_wf
theorem wrap_I64 (x : Int) : I64 (IntKind.i64.wrap x) := by
  unfold I64; rw [IntKind.wrap_i64]; omega
theorem lessQ_wf {q : Q} (h : q.wf) : (lessQ q).wf := ⟨wrap_I64 _, h.2⟩
theorem allWf_set {rows : List GR} (h : ∀ y ∈ rows, y.t.wf) (k : Nat) {x : GR} (hx : x.t.wf) : ∀ y ∈ rows.set k x, y.t.wf := fun y hy => by
  rcases List.mem_or_eq_of_mem_set hy with h1 | h1
  · exact h y h1
  · rw [h1]; exact hx
theorem stepS_wf {at_ : Nat} {v : Int} {pv : T} {k : Nat} {s : List GR × Bool} (h : ∀ y ∈ s.1, y.t.wf) : ∀ y ∈ (stepS at_ v pv k s).1, y.t.wf := by
  unfold stepS
  split
  · exact h
  · split
    · exact h
    · split
      · exact h
      · exact allWf_set h k (addTS_wf _ _)
theorem stepS_len {at_ : Nat} {v : Int} {pv : T} {k : Nat} {s : List GR × Bool} : (stepS at_ v pv k s).1.length = s.1.length := by
  unfold stepS
  split
  · rfl
  · split
    · rfl
    · split
      · rfl
      · simp
theorem loopS_wf {at_ : Nat} {v : Int} {pv : T} {s : List GR × Bool} (h : ∀ y ∈ s.1, y.t.wf) (k : Nat) : (∀ y ∈ (loopS at_ v pv s k).1, y.t.wf) ∧ (loopS at_ v pv s k).1.length = s.1.length := by
  induction k with
  | zero => exact ⟨h, rfl⟩
  | succ k ih => exact ⟨stepS_wf ih.1, by rw [loopS, stepS_len, ih.2]⟩
/-- The rows in the array r. -/
def RowsAt (W : World) (g r N : Nat) (rows : List GR) : Prop := ∃ CS : Array Value, W.heap[r]? = some (.cells CS 85 (0, 0)) ∧ ∀ (k : Nat) (x : GR), rows[k]? = some x → RowIn W g r N CS (k * 4) x
theorem RowsAt.move {W W1 : World} {g r N : Nat} {rows : List GR} (h : RowsAt W g r N rows) (hk : Kept W W1 (fun k => k = g)) (hne : g < r) : RowsAt W1 g r N rows := by
  obtain ⟨CS, hb, hx⟩ := h
  exact ⟨CS, blk_kept hb hk (by omega), fun k x hh => (hx k x hh).move (hk.mono fun _ h => .inl h)⟩
theorem RowsAt.below {W W1 : World} {g r N : Nat} {rows : List GR} (h : RowsAt W g r N rows) (hb : Below W.heap.size W W1) (hne : g < r) : RowsAt W1 g r N rows := h.move (Kept.of_below hb _) hne
theorem RowsAt.mono {W : World} {g r N N' : Nat} {rows : List GR} (h : RowsAt W g r N rows) (hN : N ≤ N') : RowsAt W g r N' rows := by
  obtain ⟨CS, hb, hx⟩ := h
  exact ⟨CS, hb, fun k x hh => (hx k x hh).mono hN⟩
/-- A block from N on is written. -/
theorem RowsAt.far {W : World} {g r N p i : Nat} {rows : List GR} (h : RowsAt W g r N rows) (hN : N ≤ p) (hr : r < p) (u : Value) : RowsAt (W.setCell ⟨p, i, none⟩ u) g r N rows := by
  obtain ⟨CS, hb, hx⟩ := h
  refine ⟨CS, blk_far hb (by dsimp only; omega) _, fun k x hh => ?_⟩
  obtain ⟨B, m, c, h1, h2, h3, h4⟩ := hx k x hh
  exact ⟨B, m, c, h1, h2, h3, Kd.F_far h4 (fun k hk => by dsimp only; omega) _⟩
theorem RowsAt.lt {W : World} {g r N : Nat} {rows : List GR} (h : RowsAt W g r N rows) : r < W.heap.size := by
  obtain ⟨CS, hb, _⟩ := h; exact blk_lt hb
theorem RowsAt.row {W : World} {g r N : Nat} {rows : List GR} (h : RowsAt W g r N rows) {k : Nat} {x : GR} (hx : rows[k]? = some x) : ∃ (B : Option Addr) (m c : Nat), W.cell? ⟨r, k * 4, none⟩ = some (.slice B m c) ∧ W.cell? ⟨r, k * 4 + 1, none⟩ = some (.int .i64 x.t.k.n) ∧ W.cell? ⟨r, k * 4 + 2, none⟩ = some (.int .i64 x.t.k.d) ∧ W.cell? ⟨r, k * 4 + 3, none⟩ = some (.int .i64 x.b) ∧ x.t.c.length = m ∧ m ≤ c ∧ Kd.F kQ W (fun k => k ≠ g ∧ k ≠ r ∧ k < N) B m x.t.c := by
  obtain ⟨CS, hb, hh⟩ := h
  obtain ⟨B, m, c, hF, hm, hc, hK⟩ := hh k x hx
  exact ⟨B, m, c, by simp [World.cell?, hb, hF.c0], by simp [World.cell?, hb, hF.c1], by simp [World.cell?, hb, hF.c2], by simp [World.cell?, hb, hF.c3], hm, hc, hK⟩
theorem RowsAt.froz {W : World} {g r N : Nat} {rows : List GR} (h : RowsAt W g r N rows) (o : Nat) : W.frozen? ⟨r, o, none⟩ = false := by
  obtain ⟨CS, hb, _⟩ := h
  simp [World.frozen?, hb]
theorem Four.put {CS : Array Value} {i : Nat} {a b c d a' b' c' d' : Value} (h : Four CS i a b c d) : Four ((((CS.setIfInBounds i a').setIfInBounds (i + 1) b').setIfInBounds (i + 2) c').setIfInBounds (i + 3) d') i a' b' c' d' := by
  obtain ⟨h0, h1, h2, h3⟩ := h
  have l3 := (Array.getElem?_eq_some_iff.1 h3).1
  constructor <;> simp only [Array.getElem?_setIfInBounds, Array.size_setIfInBounds] <;> (repeat' split) <;> first | rfl | omega | exact absurd trivial (by assumption)
theorem Four.put3 {CS : Array Value} {i : Nat} {a b c d a' b' c' : Value} (h : Four CS i a b c d) : Four (((CS.setIfInBounds i a').setIfInBounds (i + 1) b').setIfInBounds (i + 2) c') i a' b' c' d := by
  obtain ⟨h0, h1, h2, h3⟩ := h
  have l3 := (Array.getElem?_eq_some_iff.1 h3).1
  constructor <;> simp only [Array.getElem?_setIfInBounds, Array.size_setIfInBounds] <;> (repeat' split) <;> first | rfl | assumption | omega | exact absurd trivial (by assumption)
theorem Four.one {CS : Array Value} {i j : Nat} {a b c d u : Value} (h : Four CS i a b c d) (hj : j < i ∨ i + 3 < j) : Four (CS.setIfInBounds j u) i a b c d := by
  obtain ⟨h0, h1, h2, h3⟩ := h
  constructor <;> simp only [Array.getElem?_setIfInBounds] <;> split <;> first | assumption | omega
/-- Three cells of a row are written. -/
theorem RowsAt.set3 {W : World} {g r N : Nat} {rows : List GR} (h : RowsAt W g r N rows) {k : Nat} {x : GR} (hx : rows[k]? = some x) {t : T} {B : Option Addr} {m c : Nat} (hm : t.c.length = m) (hc : m ≤ c) (hF : Kd.F kQ W (fun k => k ≠ g ∧ k ≠ r ∧ k < N) B m t.c) :
    RowsAt (((W.setCell ⟨r, k * 4, none⟩ (.slice B m c)).setCell ⟨r, k * 4 + 1, none⟩ (.int .i64 t.k.n)).setCell ⟨r, k * 4 + 2, none⟩ (.int .i64 t.k.d)) g r N (rows.set k ⟨t, x.b⟩) := by
  obtain ⟨CS, hb, hh⟩ := h
  refine ⟨_, blk_set (blk_set (blk_set hb _ _) _ _) _ _, fun j y hy => ?_⟩
  have far : ∀ {B' : Option Addr} {m' : Nat} {l : List Q}, Kd.F kQ W (fun k => k ≠ g ∧ k ≠ r ∧ k < N) B' m' l → Kd.F kQ (((W.setCell ⟨r, k * 4, none⟩ (.slice B m c)).setCell ⟨r, k * 4 + 1, none⟩ (.int .i64 t.k.n)).setCell ⟨r, k * 4 + 2, none⟩ (.int .i64 t.k.d)) (fun k => k ≠ g ∧ k ≠ r ∧ k < N) B' m' l := fun h => Kd.F_far (Kd.F_far (Kd.F_far h (fun k hk => hk.2.1) _) (fun k hk => hk.2.1) _) (fun k hk => hk.2.1) _
  rw [List.getElem?_set] at hy
  by_cases e : k = j
  · subst e
    obtain ⟨_, _, _, h4, _⟩ := hh k x hx
    have hk : k < rows.length := (List.getElem?_eq_some_iff.1 hx).1
    simp only [hk, if_true] at hy
    injection hy with hy
    subst hy
    exact ⟨B, m, c, h4.put3, hm, hc, far hF⟩
  · rw [if_neg e] at hy
    obtain ⟨B', m', c', h4, h5, h6, h7⟩ := hh j y hy
    exact ⟨B', m', c', ((h4.one (by omega)).one (by omega)).one (by omega), h5, h6, far h7⟩
/-- A row is written. -/
theorem RowsAt.set4 {W : World} {g r N : Nat} {rows : List GR} (h : RowsAt W g r N rows) {k : Nat} {x : GR} (hx : rows[k]? = some x) {t : T} {v : Int} {B : Option Addr} {m c : Nat} (hm : t.c.length = m) (hc : m ≤ c) (hF : Kd.F kQ W (fun k => k ≠ g ∧ k ≠ r ∧ k < N) B m t.c) :
    RowsAt ((((W.setCell ⟨r, k * 4, none⟩ (.slice B m c)).setCell ⟨r, k * 4 + 1, none⟩ (.int .i64 t.k.n)).setCell ⟨r, k * 4 + 2, none⟩ (.int .i64 t.k.d)).setCell ⟨r, k * 4 + 3, none⟩ (.int .i64 v)) g r N (rows.set k ⟨t, v⟩) := by
  obtain ⟨CS, hb, hh⟩ := h
  refine ⟨_, blk_set (blk_set (blk_set (blk_set hb _ _) _ _) _ _) _ _, fun j y hy => ?_⟩
  have far : ∀ {B' : Option Addr} {m' : Nat} {l : List Q}, Kd.F kQ W (fun k => k ≠ g ∧ k ≠ r ∧ k < N) B' m' l → Kd.F kQ ((((W.setCell ⟨r, k * 4, none⟩ (.slice B m c)).setCell ⟨r, k * 4 + 1, none⟩ (.int .i64 t.k.n)).setCell ⟨r, k * 4 + 2, none⟩ (.int .i64 t.k.d)).setCell ⟨r, k * 4 + 3, none⟩ (.int .i64 v)) (fun k => k ≠ g ∧ k ≠ r ∧ k < N) B' m' l := fun h => Kd.F_far (Kd.F_far (Kd.F_far (Kd.F_far h (fun k hk => hk.2.1) _) (fun k hk => hk.2.1) _) (fun k hk => hk.2.1) _) (fun k hk => hk.2.1) _
  rw [List.getElem?_set] at hy
  by_cases e : k = j
  · subst e
    obtain ⟨_, _, _, h4, _⟩ := hh k x hx
    have hk : k < rows.length := (List.getElem?_eq_some_iff.1 hx).1
    simp only [hk, if_true] at hy
    injection hy with hy
    subst hy
    exact ⟨B, m, c, h4.put, hm, hc, far hF⟩
  · rw [if_neg e] at hy
    obtain ⟨B', m', c', h4, h5, h6, h7⟩ := hh j y hy
    exact ⟨B', m', c', (((h4.one (by omega)).one (by omega)).one (by omega)).one (by omega), h5, h6, far h7⟩
end Go.Proofs.Ytffpdaejemmgpaa.W
