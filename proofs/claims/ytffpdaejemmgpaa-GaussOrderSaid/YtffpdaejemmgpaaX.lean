/- This file holds the walk of the library's insertion sort over gauss's rows. -/
import Derived.Test.YtffpdaejemmgpaaW
import Derived.Deep.RegionHeld3
namespace Go.Proofs.Ytffpdaejemmgpaa.W
open Go.RowKit Go.Proofs.YtffpdaejemmgpaaW.PrintWords Go.Proofs.YtffpdaejemmgpaaW.PrintMore
set_option linter.unusedVariables false
set_option linter.unusedSimpArgs false
/-- A row, and where its fractions lie. -/
structure GV where
  x : GR
  B : Option Addr
  m : Nat
  c : Nat
def GV.agg (p : GV) : Value := .agg #[.slice p.B p.m p.c, .int .i64 p.x.t.k.n, .int .i64 p.x.t.k.d, .int .i64 p.x.b]
/-- The rows' cells in the array r. -/
def CellsAt (W : World) (r : Nat) (P : List GV) : Prop := ∃ CS : Array Value, W.heap[r]? = some (.cells CS 85 (0, 0)) ∧ ∀ (k : Nat) (p : GV), P[k]? = some p → Four CS (k * 4) (.slice p.B p.m p.c) (.int .i64 p.x.t.k.n) (.int .i64 p.x.t.k.d) (.int .i64 p.x.b)
theorem CellsAt.move {W W1 : World} {r : Nat} {P : List GV} (h : CellsAt W r P) (hk : Below W.heap.size W W1) : CellsAt W1 r P := by
  obtain ⟨CS, hb, hx⟩ := h
  exact ⟨CS, blk_below hb hk, hx⟩
theorem CellsAt.drew {W : World} {r : Nat} {P : List GV} (h : CellsAt W r P) : CellsAt W.drew r P := h
theorem CellsAt.lt {W : World} {r : Nat} {P : List GV} (h : CellsAt W r P) : r < W.heap.size := by
  obtain ⟨CS, hb, _⟩ := h; exact blk_lt hb
theorem CellsAt.get {W : World} {r k : Nat} {P : List GV} {p : GV} (h : CellsAt W r P) (hp : P[k]? = some p) : W.cell? ⟨r, k * 4, none⟩ = some (.slice p.B p.m p.c) ∧ W.cell? ⟨r, k * 4 + 1, none⟩ = some (.int .i64 p.x.t.k.n) ∧ W.cell? ⟨r, k * 4 + 2, none⟩ = some (.int .i64 p.x.t.k.d) ∧ W.cell? ⟨r, k * 4 + 3, none⟩ = some (.int .i64 p.x.b) := by
  obtain ⟨CS, hb, hx⟩ := h
  have h4 := hx k p hp
  exact ⟨by simp [World.cell?, hb, h4.c0], by simp [World.cell?, hb, h4.c1], by simp [World.cell?, hb, h4.c2], by simp [World.cell?, hb, h4.c3]⟩
theorem CellsAt.froz {W : World} {r : Nat} {P : List GV} (h : CellsAt W r P) (o : Nat) : W.frozen? ⟨r, o, none⟩ = false := by
  obtain ⟨CS, hb, _⟩ := h
  simp [World.frozen?, hb]
theorem CellsAt.set {W : World} {r k : Nat} {P : List GV} {p q : GV} (h : CellsAt W r P) (hp : P[k]? = some p) :
    CellsAt ((((W.setCell ⟨r, k * 4, none⟩ (.slice q.B q.m q.c)).setCell ⟨r, k * 4 + 1, none⟩ (.int .i64 q.x.t.k.n)).setCell ⟨r, k * 4 + 2, none⟩ (.int .i64 q.x.t.k.d)).setCell ⟨r, k * 4 + 3, none⟩ (.int .i64 q.x.b)) r (P.set k q) := by
  obtain ⟨CS, hb, hh⟩ := h
  refine ⟨_, blk_set (blk_set (blk_set (blk_set hb _ _) _ _) _ _) _ _, fun j y hy => ?_⟩
  rw [List.getElem?_set] at hy
  by_cases e : k = j
  · subst e
    have hk : k < P.length := (List.getElem?_eq_some_iff.1 hp).1
    simp only [hk, if_true] at hy
    injection hy with hy
    subst hy
    exact (hh k p hp).put
  · rw [if_neg e] at hy
    exact ((((hh j y hy).one (by omega)).one (by omega)).one (by omega)).one (by omega)
/-- The first i are in order, but the one at j may be less than those ahead of it. -/
def SortI (P : List GV) (i j : Nat) : Prop := ∀ (p q : Nat) (x y : GV), p < q → q ≤ i → q ≠ j → P[p]? = some x → P[q]? = some y → x.x.b ≤ y.x.b
def swapL (P : List GV) (j : Nat) (x y : GV) : List GV := (P.set (j + 1) x).set j y
theorem swapL_get {P : List GV} {j : Nat} {x y : GV} (hx : P[j]? = some x) (hy : P[j + 1]? = some y) (k : Nat) : (swapL P j x y)[k]? = if k = j then some y else if k = j + 1 then some x else P[k]? := by
  have h1 := (List.getElem?_eq_some_iff.1 hx).1
  have h2 := (List.getElem?_eq_some_iff.1 hy).1
  unfold swapL
  rw [List.getElem?_set, List.getElem?_set]
  by_cases e : k = j
  · subst e; simp; omega
  · by_cases e2 : k = j + 1
    · subst e2; simp; omega
    · rw [if_neg (by omega), if_neg (by omega), if_neg e, if_neg e2]
theorem swapL_len {P : List GV} {j : Nat} {x y : GV} : (swapL P j x y).length = P.length := by simp [swapL]
theorem swapL_perm {P : List GV} {j : Nat} {x y : GV} (hx : P[j]? = some x) (hy : P[j + 1]? = some y) : (swapL P j x y).Perm P := by
  obtain ⟨h1, e1⟩ := List.getElem?_eq_some_iff.1 hx
  obtain ⟨h2, e2⟩ := List.getElem?_eq_some_iff.1 hy
  unfold swapL
  rw [← e1, ← e2]
  exact List.set_set_perm h2 h1
theorem SortI.swap {P : List GV} {i j : Nat} {x y : GV} (h : SortI P i (j + 1)) (hj : j + 1 ≤ i) (hx : P[j]? = some x) (hy : P[j + 1]? = some y) (hlt : y.x.b < x.x.b) : SortI (swapL P j x y) i j := by
  intro p q u v hpq hq hne hu hv
  rw [swapL_get hx hy] at hu hv
  rw [if_neg hne] at hv
  by_cases e1 : p = j
  · subst e1
    rw [if_pos rfl] at hu; cases hu
    by_cases e2 : q = p + 1
    · rw [if_pos e2] at hv; cases hv; omega
    · rw [if_neg e2] at hv
      exact h (p + 1) q y v (by omega) hq (by omega) hy hv
  · rw [if_neg e1] at hu
    by_cases e2 : q = j + 1
    · rw [if_pos e2] at hv; cases hv
      by_cases e3 : p = j + 1
      · omega
      · rw [if_neg e3] at hu
        exact h p j u x (by omega) (by omega) (by omega) hu hx
    · rw [if_neg e2] at hv
      by_cases e3 : p = j + 1
      · rw [if_pos e3] at hu; cases hu
        exact h j q x v (by omega) hq e2 hx hv
      · rw [if_neg e3] at hu
        exact h p q u v hpq hq e2 hu hv
theorem SortI.zero {P : List GV} {i : Nat} (h : SortI P i 0) : SortI P i (i + 1) := fun p q x y hpq hq _ hx hy => h p q x y hpq hq (by omega) hx hy
theorem SortI.stop {P : List GV} {i j : Nat} {x y : GV} (h : SortI P i (j + 1)) (hx : P[j]? = some x) (hy : P[j + 1]? = some y) (hle : x.x.b ≤ y.x.b) : SortI P i (i + 1) := by
  intro p q u v hpq hq _ hu hv
  by_cases e : q = j + 1
  · subst e
    rw [hy] at hv; cases hv
    by_cases e2 : p = j
    · subst e2; rw [hx] at hu; cases hu; exact hle
    · have := h p j u x (by omega) (by omega) (by omega) hu hx
      omega
  · exact h p q u v hpq hq e hu hv
theorem SortI.pairwise {P : List GV} {i : Nat} (h : SortI P i (i + 1)) (hi : P.length ≤ i + 1) : P.Pairwise (fun x y => x.x.b ≤ y.x.b) := by
  rw [List.pairwise_iff_getElem]
  intro p q hp hq hpq
  exact h p q _ _ hpq (by omega) (by omega) (List.getElem?_eq_getElem hp) (List.getElem?_eq_getElem hq)
theorem KG.set4 {r a b c d : Nat} {w W : World} {x y z u : Value} (h : KG r (fun k => k = r) w W) (hr : r < w.heap.size) : KG r (fun k => k = r) w ((((W.setCell ⟨r, a, none⟩ x).setCell ⟨r, b, none⟩ y).setCell ⟨r, c, none⟩ z).setCell ⟨r, d, none⟩ u) :=
  (((h.set hr (.inl ⟨rfl, Nat.le_refl _⟩) _).set hr (.inl ⟨rfl, Nat.le_refl _⟩) _).set hr (.inl ⟨rfl, Nat.le_refl _⟩) _).set hr (.inl ⟨rfl, Nat.le_refl _⟩) _
set_option maxHeartbeats 1000000 in
theorem Solve2_calls (p q : GV) (hp : -1 ≤ p.x.b ∧ p.x.b ≤ 1000) (hq : -1 ≤ q.x.b ∧ q.x.b ≤ 1000) (w : World) :
    Calls Try.prog 39 #[p.agg, q.agg] w fun e w' => e = .returned (.int .i64 (p.x.b - q.x.b)) ∧ Below w.heap.size w w' := by
  obtain ⟨⟨⟨l, kn, kd⟩, b⟩, B, m, c⟩ := p
  obtain ⟨⟨⟨l', kn', kd'⟩, b'⟩, B', m', c'⟩ := q
  unfold GV.agg
  dsimp only at *
  obtain ⟨p0, p1⟩ := hp
  obtain ⟨q0, q1⟩ := hq
  go_enter Try.func39, Try.ntmps39
  go_wp2_with fail
  go_ret
  exact ⟨ret_int rfl, (by repeat (first | exact Below.refl _ _ | assumption | exact Hid.out (by assumption) | (with_reducible first | refine bw_drewN ?_ _ | refine bw_alloc ?_ _ | refine bw_drew ?_) | (refine bw_set ?_ (by first | exact Nat.le_refl _ | (simp; done) | (simp; omega) | omega) _)))⟩
set_option maxRecDepth 8000 in
set_option maxHeartbeats 4000000 in
theorem insertion_calls (r n cap : Nat) (P : List GV) (hn : P.length = n) (h0 : 0 < n) (hmx : n ≤ 1000) (hb : ∀ p ∈ P, -1 ≤ p.x.b ∧ p.x.b ≤ 1000) (w : World) (hc : CellsAt w r P) :
    Calls Try.prog 99 #[.slice (some ⟨r, 0, none⟩) n cap, .int .i64 0, .int .i64 n, .func (.func 39) #[] #[]] w fun e w' => e = .returned (.tuple #[]) ∧ ∃ P' : List GV, P'.Perm P ∧ P'.Pairwise (fun x y => x.x.b ≤ y.x.b) ∧ CellsAt w' r P' ∧ KG r (fun k => k = r) w w' := by
  have hrl : r < w.heap.size := hc.lt
  have HN := Lib.hid hn
  have HB := Lib.hid hb
  have HC := Lib.hid hc
  clear hn hb hc
  go_enter Try.func99, Try.ntmps99
  go_wp2_with fail
  go_loopw [8] (fun i wr => ∃ (k : Nat) (P1 : List GV), 1 ≤ k ∧ k ≤ n ∧ i = .int .i64 k ∧ Hid (P1.Perm P) ∧ Hid (SortI P1 (k - 1) k) ∧ Hid (CellsAt wr r P1) ∧ Hid (KG r (fun k => k = r) w wr)) (fun i _ => n - (intOf i).toNat)
  case atStart => exact ⟨1, P, by omega, by omega, by go_num, Lib.hid (List.Perm.refl _), Lib.hid (fun p q x y h1 h2 => absurd h1 (by omega)), HC, Lib.hid (KG.refl _ _ _)⟩
  case round =>
    obtain ⟨k, P1, hk1, hkn, rfl, hP, hS, hC, hK⟩ := hrel
    by_cases hlt : k < n
    · obtain ⟨wo, rfl⟩ : ∃ wo : World, wo = wr := ⟨_, rfl⟩
      go_wp2_with fail
      go_loopw [9] (fun jv wr => ∃ (j : Nat) (P2 : List GV), j ≤ k ∧ jv = .int .i64 j ∧ Hid (P2.Perm P) ∧ Hid (SortI P2 k j) ∧ Hid (CellsAt wr r P2) ∧ Hid (KG r (fun k => k = r) w wr)) (fun j _ => (intOf j).toNat)
      case atStart => exact ⟨k, P1, by omega, rfl, hP, Lib.hid (fun p q x y h1 h2 h3 hx hy => hS.out p q x y h1 (by omega) (by omega) hx hy), hC, hK⟩
      case round =>
        obtain ⟨j, P2, hj, rfl, hP2, hS2, hC2, hK2⟩ := hrel
        by_cases hj0 : j = 0
        · subst hj0
          go_wp2_with fail
          go_quiet (fail)
          go_wp2_with fail
          go_roundw
          case rel => exact ⟨k + 1, P2, by omega, by omega, by go_num, hP2, Lib.hid hS2.out.zero, Lib.hid (hC2.out.move (by repeat (first | exact Below.refl _ _ | assumption | exact Hid.out (by assumption) | (with_reducible first | refine bw_drewN ?_ _ | refine bw_alloc ?_ _ | refine bw_drew ?_) | (refine bw_set ?_ (by first | exact Nat.le_refl _ | (simp; done) | (simp; omega) | omega) _)))), Lib.hid (hK2.out.drewN _)⟩
          case measure => simp [intOf]; omega
        · have hl2 : P2.length = n := by rw [hP2.out.length_eq, HN.out]
          obtain ⟨i, hi⟩ : ∃ i, i + 1 = j := ⟨j - 1, by omega⟩
          obtain ⟨x, hx⟩ : ∃ x, P2[i]? = some x := ⟨_, List.getElem?_eq_getElem (by omega)⟩
          obtain ⟨y, hy⟩ : ∃ y, P2[j]? = some y := ⟨_, List.getElem?_eq_getElem (by omega)⟩
          have bx := HB.out x (hP2.out.mem_iff.1 (List.mem_of_getElem? hx))
          have by_ := HB.out y (hP2.out.mem_iff.1 (List.mem_of_getElem? hy))
          obtain ⟨x0, x1, x2, x3⟩ := hC2.out.get hx
          obtain ⟨y0, y1, y2, y3⟩ := hC2.out.get hy
          have HCL := Lib.hid fun W => Solve2_calls y x by_ bx W
          have HX := Lib.hid hx
          have HY := Lib.hid hy
          have hrw := hC2.out.lt
          have fz := hC2.out.froz
          have f0 := fz (i * 4)
          have f1 := fz (i * 4 + 1)
          have f2 := fz (i * 4 + 2)
          have f3 := fz (i * 4 + 3)
          have f4 := fz (j * 4)
          have f5 := fz (j * 4 + 1)
          have f6 := fz (j * 4 + 2)
          have f7 := fz (j * 4 + 3)
          have e0 : IntKind.i64.wrap (i : Int) = i := by rw [IntKind.wrap_i64]; omega
          have e1 : (j : Int) - 1 = i := by omega
          have e2 : (0 : Int) < (j : Int) := by omega
          have e3 : (j : Int) < n := by omega
          have e4 : (i : Int) < n := by omega
          have e5 : i < n := by omega
          have e6 : j < n := by omega
          have e7 : decide (0 < j) = true := by simp; omega
          have e8 : (0 : Int) ≤ (i : Int) := by omega
          have HI := Lib.hid hi
          clear hx hy fz hl2 hi
          unfold GV.agg at HCL
          have HS3 := Lib.hid hS2
          by_cases hlt2 : y.x.b < x.x.b
          · have d1 : decide (y.x.b - x.x.b < 0) = true := by simp; omega
            have HLT := Lib.hid hlt2
            clear hlt2
            go_wp2_with fail
            go_region_held3 (fun w' : World => w'.cell? ⟨r, i * 4, none⟩ = some (.slice x.B x.m x.c) ∧ w'.cell? ⟨r, i * 4 + 1, none⟩ = some (.int .i64 x.x.t.k.n) ∧ w'.cell? ⟨r, i * 4 + 2, none⟩ = some (.int .i64 x.x.t.k.d) ∧ w'.cell? ⟨r, i * 4 + 3, none⟩ = some (.int .i64 x.x.b) ∧ w'.cell? ⟨r, j * 4, none⟩ = some (.slice y.B y.m y.c) ∧ w'.cell? ⟨r, j * 4 + 1, none⟩ = some (.int .i64 y.x.t.k.n) ∧ w'.cell? ⟨r, j * 4 + 2, none⟩ = some (.int .i64 y.x.t.k.d) ∧ w'.cell? ⟨r, j * 4 + 3, none⟩ = some (.int .i64 y.x.b))
              (first | exact ⟨x0, x1, x2, x3, y0, y1, y2, y3⟩ | exact HE1.out)
              (first | (go_at_call 39; refine (HCL.out _).mono ?_; rintro e w1 ⟨rfl, hw1⟩; obtain ⟨hcl, hfr⟩ := bcell hw1; have hz : r < w1.heap.size := (by have := hw1.size; (try simp at this); omega); have HE1 := Lib.hid (show w1.cell? ⟨r, i * 4, none⟩ = some (.slice x.B x.m x.c) ∧ w1.cell? ⟨r, i * 4 + 1, none⟩ = some (.int .i64 x.x.t.k.n) ∧ w1.cell? ⟨r, i * 4 + 2, none⟩ = some (.int .i64 x.x.t.k.d) ∧ w1.cell? ⟨r, i * 4 + 3, none⟩ = some (.int .i64 x.x.b) ∧ w1.cell? ⟨r, j * 4, none⟩ = some (.slice y.B y.m y.c) ∧ w1.cell? ⟨r, j * 4 + 1, none⟩ = some (.int .i64 y.x.t.k.n) ∧ w1.cell? ⟨r, j * 4 + 2, none⟩ = some (.int .i64 y.x.t.k.d) ∧ w1.cell? ⟨r, j * 4 + 3, none⟩ = some (.int .i64 y.x.b) from ⟨(hcl _ _ hrw).trans x0, (hcl _ _ hrw).trans x1, (hcl _ _ hrw).trans x2, (hcl _ _ hrw).trans x3, (hcl _ _ hrw).trans y0, (hcl _ _ hrw).trans y1, (hcl _ _ hrw).trans y2, (hcl _ _ hrw).trans y3⟩)))
            have B1 : Below wr.heap.size wr w1 := bw_then (by repeat (first | exact Below.refl _ _ | assumption | exact Hid.out (by assumption) | (with_reducible first | refine bw_drewN ?_ _ | refine bw_alloc ?_ _ | refine bw_drew ?_) | (refine bw_set ?_ (by first | exact Nat.le_refl _ | (simp; done) | (simp; omega) | omega) _))) hw1
            obtain ⟨z0, z1, z2, z3, z4, z5, z6, z7⟩ := HE1.out
            have g0 := (hfr r (i * 4) hrw).trans f0
            have g1 := (hfr r (i * 4 + 1) hrw).trans f1
            have g2 := (hfr r (i * 4 + 2) hrw).trans f2
            have g3 := (hfr r (i * 4 + 3) hrw).trans f3
            have g4 := (hfr r (j * 4) hrw).trans f4
            have g5 := (hfr r (j * 4 + 1) hrw).trans f5
            have g6 := (hfr r (j * 4 + 2) hrw).trans f6
            have g7 := (hfr r (j * 4 + 3) hrw).trans f7
            clear hcl hfr hw1 x0 x1 x2 x3 y0 y1 y2 y3 f0 f1 f2 f3 f4 f5 f6 f7 HE1
            go_wp2_with fail
            go_region
            all_goals
              go_wp2_with fail
              go_roundw
              case rel =>
                refine ⟨i, swapL P2 i x y, by omega, rfl, Lib.hid ((swapL_perm HX.out (by rw [HI.out]; exact HY.out)).trans hP2.out), Lib.hid (SortI.swap (by rw [HI.out]; exact hS2.out) (by omega) HX.out (by rw [HI.out]; exact HY.out) HLT.out), Lib.hid ?_, Lib.hid ?_⟩
                · have h1 := (hC2.out.move B1).set HY.out (q := x)
                  have h2 := h1.set (k := i) (p := x) (q := y) (by rw [List.getElem?_set_ne (by omega)]; exact HX.out)
                  unfold swapL
                  rw [HI.out]
                  exact h2.drew
                · exact (((hK2.out.below hrw B1).set4 hrl).set4 hrl).drew
              case measure => simp [intOf]; omega
          · have d1 : decide (y.x.b - x.x.b < 0) = false := by simp; omega
            have HLT := Lib.hid hlt2
            clear hlt2
            go_wp2_with fail
            go_region_held3 (fun w' : World => w'.cell? ⟨r, i * 4, none⟩ = some (.slice x.B x.m x.c) ∧ w'.cell? ⟨r, i * 4 + 1, none⟩ = some (.int .i64 x.x.t.k.n) ∧ w'.cell? ⟨r, i * 4 + 2, none⟩ = some (.int .i64 x.x.t.k.d) ∧ w'.cell? ⟨r, i * 4 + 3, none⟩ = some (.int .i64 x.x.b) ∧ w'.cell? ⟨r, j * 4, none⟩ = some (.slice y.B y.m y.c) ∧ w'.cell? ⟨r, j * 4 + 1, none⟩ = some (.int .i64 y.x.t.k.n) ∧ w'.cell? ⟨r, j * 4 + 2, none⟩ = some (.int .i64 y.x.t.k.d) ∧ w'.cell? ⟨r, j * 4 + 3, none⟩ = some (.int .i64 y.x.b))
              (first | exact ⟨x0, x1, x2, x3, y0, y1, y2, y3⟩ | exact HE1.out)
              (first | (go_at_call 39; refine (HCL.out _).mono ?_; rintro e w1 ⟨rfl, hw1⟩; obtain ⟨hcl, hfr⟩ := bcell hw1; have hz : r < w1.heap.size := (by have := hw1.size; (try simp at this); omega); have HE1 := Lib.hid (show w1.cell? ⟨r, i * 4, none⟩ = some (.slice x.B x.m x.c) ∧ w1.cell? ⟨r, i * 4 + 1, none⟩ = some (.int .i64 x.x.t.k.n) ∧ w1.cell? ⟨r, i * 4 + 2, none⟩ = some (.int .i64 x.x.t.k.d) ∧ w1.cell? ⟨r, i * 4 + 3, none⟩ = some (.int .i64 x.x.b) ∧ w1.cell? ⟨r, j * 4, none⟩ = some (.slice y.B y.m y.c) ∧ w1.cell? ⟨r, j * 4 + 1, none⟩ = some (.int .i64 y.x.t.k.n) ∧ w1.cell? ⟨r, j * 4 + 2, none⟩ = some (.int .i64 y.x.t.k.d) ∧ w1.cell? ⟨r, j * 4 + 3, none⟩ = some (.int .i64 y.x.b) from ⟨(hcl _ _ hrw).trans x0, (hcl _ _ hrw).trans x1, (hcl _ _ hrw).trans x2, (hcl _ _ hrw).trans x3, (hcl _ _ hrw).trans y0, (hcl _ _ hrw).trans y1, (hcl _ _ hrw).trans y2, (hcl _ _ hrw).trans y3⟩)))
            have B1 : Below wr.heap.size wr w1 := bw_then (by repeat (first | exact Below.refl _ _ | assumption | exact Hid.out (by assumption) | (with_reducible first | refine bw_drewN ?_ _ | refine bw_alloc ?_ _ | refine bw_drew ?_) | (refine bw_set ?_ (by first | exact Nat.le_refl _ | (simp; done) | (simp; omega) | omega) _))) hw1
            clear hcl hfr
            go_wp2_with fail
            go_roundw
            case rel => exact ⟨k + 1, P2, by omega, by omega, by go_num, hP2, Lib.hid (SortI.stop (j := i) (by rw [HI.out]; exact hS2.out) HX.out (by rw [HI.out]; exact HY.out) (by have := HLT.out; omega)), Lib.hid (hC2.out.move B1), Lib.hid (hK2.out.below hrw B1)⟩
            case measure => simp [intOf]; omega
    · obtain rfl : k = n := by omega
      go_wp2_with fail
      exact ⟨rfl, _, results_none rfl _ _ _, rfl, P1, hP.out, SortI.pairwise (i := k - 1) (by rw [Nat.sub_add_cancel hk1]; exact hS.out) (by rw [hP.out.length_eq, HN.out]; omega), hC.out, hK.out⟩
end Go.Proofs.Ytffpdaejemmgpaa.W
