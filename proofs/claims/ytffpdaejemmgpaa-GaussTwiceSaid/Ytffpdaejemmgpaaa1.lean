/- This file holds the walk of gauss.Solve. -/
import Derived.Test.YtffpdaejemmgpaaZ
import Derived.Deep.RegionHeld3
namespace Go.Proofs.Ytffpdaejemmgpaa.W
open Go.RowKit Go.Proofs.YtffpdaejemmgpaaW.PrintWords Go.Proofs.YtffpdaejemmgpaaW.PrintMore
set_option linter.unusedVariables false
set_option linter.unusedSimpArgs false
def slv (x : Option Addr × Nat × Nat) : Value := .slice x.1 x.2.1 x.2.2
/-- A row's four cells, its fractions not looked into. -/
def kGV : Kd GV := Kd.iso (Kd.pair (Kd.scalar slv (fun _ => rfl)) (Kd.pair (Kd.int .i64) (Kd.pair (Kd.int .i64) (Kd.int .i64)))) (fun p : GV => ((p.B, p.m, p.c), p.x.t.k.n, p.x.t.k.d, p.x.b))
theorem kGV_open {w : World} {p : GV} {cs : List Value} (h : kGV.K w p cs) : cs = [.slice p.B p.m p.c, .int .i64 p.x.t.k.n, .int .i64 p.x.t.k.d, .int .i64 p.x.b] := by
  obtain ⟨_, _, rfl, h1, _, _, rfl, h2, _, _, rfl, h3, h4⟩ := h
  cases h1; cases h2; cases h3; cases h4
  rfl
theorem kGV_M (w : World) (base : Nat) (ok : Nat → Prop) (p : GV) : kGV.M w base ok p [.slice p.B p.m p.c, .int .i64 p.x.t.k.n, .int .i64 p.x.t.k.d, .int .i64 p.x.b] :=
  ⟨[.slice p.B p.m p.c], [.int .i64 p.x.t.k.n, .int .i64 p.x.t.k.d, .int .i64 p.x.b], rfl, rfl, [.int .i64 p.x.t.k.n], [.int .i64 p.x.t.k.d, .int .i64 p.x.b], rfl, rfl, [.int .i64 p.x.t.k.d], [.int .i64 p.x.b], rfl, rfl, rfl⟩
theorem infoRow : (Try.prog.info? 85).map (fun i => (i.zero, i.size, i.bytes)) = some (some (.agg #[.slice none 0 0, .int .i64 0, .int .i64 0, .int .i64 0]), 4, 48) := by kernel_rfl
theorem infoTerm : (Try.prog.info? 39).map (fun i => (i.zero, i.size, i.bytes)) = some (some (.agg #[.slice none 0 0, .int .i64 0, .int .i64 0]), 3, 40) := by kernel_rfl
theorem infoInt : (Try.prog.info? 3).map (fun i => (i.zero, i.size, i.bytes)) = some (some (.int .i64 0), 1, 8) := by kernel_rfl
/-- The rows that the call appends: the state's block g, the rows P in the slice v. -/
structure L1 (g : Nat) (w wr : World) (P : List GV) (v : Value) : Prop where mk ::
  b : Below w.heap.size w wr
  flag : wr.heap[g]? = some (.cells #[v, .bool false] 82 (0, 0))
  own : Kd.R kGV 85 wr w.heap.size (fun j => g < j) v P
  f : ∀ p ∈ P, p.x.t.c.length = p.m ∧ p.m ≤ p.c ∧ Kd.F kQ wr (fun k => g < k ∧ some k ≠ v.ownBlock) p.B p.m p.x.t.c
  lo : w.heap.size ≤ g
theorem L1.lt {g : Nat} {w wr : World} {P : List GV} {v : Value} (h : L1 g w wr P v) (k : Nat) (hk : v.ownBlock = some k) : k < wr.heap.size := by
  obtain ⟨cells, hc⟩ := Kd.R_typed h.own k hk
  exact blk_lt hc
theorem L1.below {g : Nat} {w wr w1 : World} {P : List GV} {v : Value} (h : L1 g w wr P v) (hb : Below wr.heap.size wr w1) : L1 g w w1 P v :=
  ⟨bw_then h.b hb, blk_below h.flag hb, Kd.R_below h.own hb, fun p hp => ⟨(h.f p hp).1, (h.f p hp).2.1, Kd.F_below (h.f p hp).2.2 hb⟩, h.lo⟩
/-- One row more. -/
theorem L1.next {g : Nat} {w W1 W2 : World} {P : List GV} {v v2 : Value} {p : GV} {N : Nat} (h : L1 g w W1 P v) (hm : p.x.t.c.length = p.m) (hc : p.m ≤ p.c) (hF : Kd.F kQ W1 (fun k => N ≤ k) p.B p.m p.x.t.c) (hN : g < N) (hv : ∀ k, v.ownBlock = some k → k < N)
    (ho : Kd.R kGV 85 W2 w.heap.size (fun j => g < j) v2 (P ++ [p])) (hb : Below w.heap.size w W2) (hg : W1.grownBy W2 v.ownBlock) (hat : v2.ownBlock = v.ownBlock ∨ ∃ b, v2.ownBlock = some b ∧ W1.heap.size ≤ b) :
    L1 g w (W2.setCell ⟨g, 0, none⟩ v2) (P ++ [p]) v2 := by
  have hne : some g ≠ v.ownBlock := fun e => by have := h.own.1 g e.symm; omega
  have far : ∀ {q : GV}, Kd.F kQ W1 (fun k => g < k ∧ some k ≠ v.ownBlock) q.B q.m q.x.t.c → Kd.F kQ (W2.setCell ⟨g, 0, none⟩ v2) (fun k => g < k ∧ some k ≠ v2.ownBlock) q.B q.m q.x.t.c := by
    intro q hq
    refine Kd.F_far (Kd.F_mono (Kd.F_step (Kd.F_bound hq) (fun k hk hlt => hg.block k hlt hk.1.2)) (fun k hk => ⟨hk.1.1, ?_⟩)) (fun k hk e => by dsimp only at e; omega) _
    rcases hat with e | ⟨b, e, hb'⟩
    · rw [e]; exact hk.1.2
    · rw [e]; intro e'; injection e' with e'; omega
  refine ⟨bw_set hb (by have := h.lo; dsimp only; omega) _, blk_set (blk_grown h.flag hg hne) 0 _, Kd.R_far ho (fun k hk => by dsimp only at hk ⊢; omega) _, fun q hq => ?_, h.lo⟩
  rcases List.mem_append.1 hq with e | e
  · exact ⟨(h.f q e).1, (h.f q e).2.1, far (h.f q e).2.2⟩
  · rw [List.mem_singleton] at e
    subst e
    exact ⟨hm, hc, far (Kd.F_mono hF fun k hk => ⟨by omega, fun e => by have := hv k e.symm; omega⟩)⟩
/-- The answer of gauss.Solve in new memory. -/
def RetG (w w' : World) (e : Ending) (r : GOut) : Prop := ∃ (A' B' : Option Addr) (n' c' m' d' : Nat), e = .returned (.tuple #[.slice A' n' c', .slice B' m' d', .int .i64 r.s]) ∧ r.a.length = n' ∧ n' ≤ c' ∧ Kd.C kT w' A' n' r.a ∧ r.p.length = m' ∧ m' ≤ d' ∧ Kd.C (Kd.int .i64) w' B' m' r.p
theorem RetG.none (w w' : World) {e : Ending} {s : Int} (he : e = .returned (.tuple #[.slice none 0 0, .slice none 0 0, .int .i64 s])) : RetG w w' e ⟨[], [], s⟩ :=
  ⟨_, _, 0, 0, 0, 0, he, rfl, Nat.le_refl _, ⟨rfl, by simp, fun h => absurd h (Nat.lt_irrefl 0)⟩, rfl, Nat.le_refl _, ⟨rfl, by simp, fun h => absurd h (Nat.lt_irrefl 0)⟩⟩
theorem any_bad {l : List T} (hn : l.length < 20) (h : (l.any fun q => !rightT q) = false) : badS l = false := by
  unfold badS; rw [h]
  have : decide (400 < l.length) = false := by simp; omega
  rw [this]; rfl
theorem any_bad' {l : List T} (h : (l.any fun q => !rightT q) = true) : badS l = true := by
  unfold badS; rw [h]; simp
theorem start_step {P : List GV} {p : GV} {l : List T} {k : Nat} (hk : k < l.length) (h : P.map GV.x = startS (l.take k)) (hp : p.x = ⟨ownS l[k], -1⟩) : (P ++ [p]).map GV.x = startS (l.take (k + 1)) := by
  unfold startS at *
  rw [List.map_append, h, List.take_succ_eq_append_getElem hk, List.map_append, List.map_cons, List.map_nil, List.map_cons, List.map_nil, hp]
/-- What was appended lies in one array. -/
theorem L1.rowsOf {g : Nat} {w wr : World} {P : List GV} {v : Value} (h : L1 g w wr P v) : ∃ (A1 : Option Addr) (c1 : Nat), v = .slice A1 P.length c1 ∧ RowsOf wr g A1 P.length c1 (P.map GV.x) := by
  obtain ⟨A1, c1, hv, hc1, hC⟩ := Kd.R_reads h.own
  refine ⟨A1, c1, hv, by simp, hc1, fun hp => ?_⟩
  obtain ⟨ad, e, hx⟩ := hC.2.2 hp
  obtain ⟨inner, ho, _⟩ := h.own.2
  rcases ho.2 with ⟨hz, h0⟩ | ⟨r, cap, cur, hv2, _, hh, _⟩
  · omega
  · rw [hv2] at hv
    injection hv with hA hn hcc
    have hown : v.ownBlock = some r := by rw [hv2]; rfl
    have hgr := h.own.1 r hown
    refine ⟨r, cur, hA.symm, hgr, hh, fun k x hk => ?_⟩
    rw [List.getElem?_map] at hk
    cases hp' : P[k]? with
    | none => rw [hp'] at hk; cases hk
    | some p =>
      rw [hp'] at hk
      simp only [Option.map_some, Option.some.injEq] at hk
      subst hk
      obtain ⟨cs, _, hK, hcell⟩ := hx k p hp'
      obtain rfl := kGV_open hK
      rw [← hA] at e
      injection e with e
      subst e
      have hcur : ∀ (i : Nat) (u : Value), ([.slice p.B p.m p.c, .int .i64 p.x.t.k.n, .int .i64 p.x.t.k.d, .int .i64 p.x.b] : List Value)[i]? = some u → cur[k * 4 + i]? = some u := fun i u hi => by
        have := hcell i u hi
        rw [add_plain] at this
        rw [← blk_cell hh]; exact this
      obtain ⟨f1, f2, f3⟩ := h.f p (List.mem_of_getElem? hp')
      exact ⟨p.B, p.m, p.c, ⟨hcur 0 _ rfl, hcur 1 _ rfl, hcur 2 _ rfl, hcur 3 _ rfl⟩, f1, f2, Kd.F_mono (Kd.F_bound f3) fun j hj => ⟨by omega, fun e => hj.1.2 (by rw [hown, e]), hj.2⟩⟩
/-- A term's three cells, its fractions not looked into. -/
def kGT : Kd GV := Kd.iso (Kd.pair (Kd.scalar slv (fun _ => rfl)) (Kd.pair (Kd.int .i64) (Kd.int .i64))) (fun p : GV => ((p.B, p.m, p.c), p.x.t.k.n, p.x.t.k.d))
theorem kGT_open {w : World} {p : GV} {cs : List Value} (h : kGT.K w p cs) : cs = [.slice p.B p.m p.c, .int .i64 p.x.t.k.n, .int .i64 p.x.t.k.d] := by
  obtain ⟨_, _, rfl, h1, _, _, rfl, h2, h3⟩ := h
  cases h1; cases h2; cases h3
  rfl
theorem kGT_mk (w : World) (p : GV) : kGT.K w p [.slice p.B p.m p.c, .int .i64 p.x.t.k.n, .int .i64 p.x.t.k.d] :=
  ⟨[.slice p.B p.m p.c], [.int .i64 p.x.t.k.n, .int .i64 p.x.t.k.d], rfl, rfl, [.int .i64 p.x.t.k.n], [.int .i64 p.x.t.k.d], rfl, rfl, rfl⟩
theorem kGT_M {w : World} {base : Nat} {ok : Nat → Prop} {p : GV} {cs : List Value} (h : kGT.K w p cs) (w' : World) : kGT.M w' base ok p cs := by
  obtain rfl := kGT_open h
  exact ⟨[.slice p.B p.m p.c], [.int .i64 p.x.t.k.n, .int .i64 p.x.t.k.d], rfl, rfl, [.int .i64 p.x.t.k.n], [.int .i64 p.x.t.k.d], rfl, rfl, rfl⟩
theorem C_terms {W : World} {A : Option Addr} {n : Nat} {P : List GV} (h : Kd.C kGT W A n P) (hf : ∀ p ∈ P, p.x.t.c.length = p.m ∧ p.m ≤ p.c ∧ Kd.C kQ W p.B p.m p.x.t.c) : Kd.C kT W A n (P.map fun p => p.x.t) := by
  obtain ⟨h1, h2, h3⟩ := h
  refine ⟨by simpa using h1, h2, fun hp => ?_⟩
  obtain ⟨ad, e, hx⟩ := h3 hp
  refine ⟨ad, e, fun j t hj => ?_⟩
  rw [List.getElem?_map] at hj
  cases hp' : P[j]? with
  | none => rw [hp'] at hj; cases hj
  | some p =>
    rw [hp'] at hj
    simp only [Option.map_some, Option.some.injEq] at hj
    subst hj
    obtain ⟨cs, hl, hK, hcell⟩ := hx j p hp'
    obtain rfl := kGT_open hK
    obtain ⟨f1, f2, f3⟩ := hf p (List.mem_of_getElem? hp')
    exact ⟨_, hl, kT_mk f1 f2 f3, hcell⟩
/-- A state's rows, one by one. -/
theorem SV.cells {g n cap : Nat} {A : Option Addr} {w W : World} {s : List GR × Bool} (h : SV g A n cap w W s) : ∃ P : List GV, P.map GV.x = s.1 ∧ P.length = n ∧ (∀ p ∈ P, p.x.t.c.length = p.m ∧ p.m ≤ p.c ∧ Kd.C kQ W p.B p.m p.x.t.c) ∧
    ∀ (k : Nat) (p : GV), P[k]? = some p → ∃ r, A = some ⟨r, 0, none⟩ ∧ r < W.heap.size ∧ W.cell? ⟨r, k * 4, none⟩ = some (.slice p.B p.m p.c) ∧ W.cell? ⟨r, k * 4 + 1, none⟩ = some (.int .i64 p.x.t.k.n) ∧ W.cell? ⟨r, k * 4 + 2, none⟩ = some (.int .i64 p.x.t.k.d) ∧ W.cell? ⟨r, k * 4 + 3, none⟩ = some (.int .i64 p.x.b) := by
  obtain ⟨h1, h2, h3⟩ := h.rows
  by_cases h0 : n = 0
  · subst h0
    exact ⟨[], (List.eq_nil_of_length_eq_zero h1).symm, rfl, by simp, by simp⟩
  · obtain ⟨r, CS, rfl, hgr, _⟩ := h3 (by omega)
    obtain ⟨P, hP, hc, hF⟩ := (h.rows.at_ (by omega)).2.cells
    refine ⟨P, hP, by rw [← h1, ← hP, List.length_map], fun p hp => ⟨(hF p hp).1, (hF p hp).2.1, Kd.F_now (hF p hp).2.2⟩, fun k p hk => ⟨r, rfl, hc.lt, hc.get hk⟩⟩
/-- The taken terms and their variables, as they are appended: the array of rows is read at W0. -/
structure L2 (w W0 wr : World) (P : List GV) (k : Nat) (v8 v9 : Value) : Prop where mk ::
  b : Below W0.heap.size W0 wr
  t : Kd.R kGT 39 wr W0.heap.size (fun j => W0.heap.size ≤ j) v8 ((P.take k).filter fun p => taken p.x)
  p : Kd.R (Kd.int .i64) 3 wr W0.heap.size (fun j => W0.heap.size ≤ j) v9 (((P.take k).filter fun p => taken p.x).map fun p => p.x.b)
  ok : ∀ q ∈ P.take k, ¬ (q.x.b = -1 ∧ q.x.t.k.n ≠ 0)
theorem L2.below {w W0 wr w1 : World} {P : List GV} {k : Nat} {v8 v9 : Value} (h : L2 w W0 wr P k v8 v9) (hb : Below wr.heap.size wr w1) : L2 w W0 w1 P k v8 v9 :=
  ⟨bw_then h.b hb, Kd.R_below h.t hb, Kd.R_below h.p hb, h.ok⟩
theorem L2.skip {w W0 wr : World} {P : List GV} {k : Nat} {v8 v9 : Value} {q : GV} (h : L2 w W0 wr P k v8 v9) (hq : P[k]? = some q) (hb : q.x.b = -1) (hk : q.x.t.k.n = 0) : L2 w W0 wr P (k + 1) v8 v9 := by
  obtain ⟨hkl, e⟩ := List.getElem?_eq_some_iff.1 hq
  have ht : P.take (k + 1) = P.take k ++ [q] := by rw [List.take_succ_eq_append_getElem hkl, e]
  have hf : (P.take (k + 1)).filter (fun p => taken p.x) = (P.take k).filter (fun p => taken p.x) := by
    rw [ht, List.filter_append]; simp [taken, hb]
  refine ⟨h.b, by rw [hf]; exact h.t, by rw [hf]; exact h.p, fun y hy => ?_⟩
  rw [ht] at hy
  rcases List.mem_append.1 hy with hy | hy
  · exact h.ok y hy
  · rw [List.mem_singleton] at hy; subst hy; rintro ⟨_, h2⟩; exact h2 hk
theorem filter_take {P : List GV} {k : Nat} {q : GV} (hq : P[k]? = some q) (hb : q.x.b ≠ -1) : (P.take (k + 1)).filter (fun p => taken p.x) = (P.take k).filter (fun p => taken p.x) ++ [q] := by
  obtain ⟨hkl, e⟩ := List.getElem?_eq_some_iff.1 hq
  rw [List.take_succ_eq_append_getElem hkl, e, List.filter_append]
  congr 1
  simp [taken, hb]
theorem ok_take {P : List GV} {k : Nat} {q : GV} (h : ∀ q ∈ P.take k, ¬ (q.x.b = -1 ∧ q.x.t.k.n ≠ 0)) (hq : P[k]? = some q) (hb : q.x.b ≠ -1) : ∀ q ∈ P.take (k + 1), ¬ (q.x.b = -1 ∧ q.x.t.k.n ≠ 0) := by
  obtain ⟨hkl, e⟩ := List.getElem?_eq_some_iff.1 hq
  intro y hy
  rw [List.take_succ_eq_append_getElem hkl, e] at hy
  rcases List.mem_append.1 hy with hy | hy
  · exact h y hy
  · rw [List.mem_singleton] at hy; subst hy; rintro ⟨h1, _⟩; exact hb h1
theorem one_term {W0 W : World} {b : Nat} {t : TypeId} {q : GV} (h : W.heap[b]? = some (.cells #[.slice q.B q.m q.c, .int .i64 q.x.t.k.n, .int .i64 q.x.t.k.d] t (0, 0))) : ReadsRow (kGT.K W0) kGT.sz W (some ⟨b, 0, none⟩) 1 [q] := by
  refine ⟨rfl, by decide, fun _ => ⟨_, rfl, fun j p hj => ?_⟩⟩
  have e : j = 0 ∧ p = q := by
    rcases j with _ | j
    · simp at hj; exact ⟨rfl, hj.symm⟩
    · simp at hj
  obtain ⟨rfl, rfl⟩ := e
  refine ⟨_, rfl, kGT_mk W0 p, fun i u hi => ?_⟩
  rw [add_plain, Nat.zero_mul, Nat.zero_add, blk_cell h]
  simpa using hi
theorem one_int {W0 W : World} {b : Nat} {t : TypeId} {n : Int} (h : W.heap[b]? = some (.cells #[.int .i64 n] t (0, 0))) : ReadsRow ((Kd.int .i64).K W0) (Kd.int .i64).sz W (some ⟨b, 0, none⟩) 1 [n] := by
  refine ⟨rfl, by decide, fun _ => ⟨_, rfl, fun j p hj => ?_⟩⟩
  have e : j = 0 ∧ p = n := by
    rcases j with _ | j
    · simp at hj; exact ⟨rfl, hj.symm⟩
    · simp at hj
  obtain ⟨rfl, rfl⟩ := e
  refine ⟨[.int .i64 p], rfl, rfl, fun i u hi => ?_⟩
  have hs : (Kd.int .i64).sz = 1 := rfl
  rw [add_plain, Nat.zero_mul, Nat.zero_add, blk_cell h]
  simpa using hi
theorem cells4 {W : World} {a : Nat} {a0 a1 a2 a3 : Value} {t : TypeId} (ha : W.heap[a]? = some (.cells #[a0, a1, a2, a3] t (0, 0))) :
    W.cell? ⟨a, 0, none⟩ = some a0 ∧ W.cell? ⟨a, 1, none⟩ = some a1 ∧ W.cell? ⟨a, 2, none⟩ = some a2 ∧ W.cell? ⟨a, 3, none⟩ = some a3 := ⟨blk_cell ha 0, blk_cell ha 1, blk_cell ha 2, blk_cell ha 3⟩
end Go.Proofs.Ytffpdaejemmgpaa.W
