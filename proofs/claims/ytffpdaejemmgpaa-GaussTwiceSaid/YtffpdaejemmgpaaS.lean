/- This file holds the walks of gauss.solve's test and of IndexFunc over rows. -/
import Derived.Test.YtffpdaejemmgpaaR
namespace Go.Proofs.Ytffpdaejemmgpaa.W
open Go.RowKit Go.Proofs.YtffpdaejemmgpaaW.PrintWords Go.Proofs.YtffpdaejemmgpaaW.PrintMore
set_option linter.unusedVariables false
set_option linter.unusedSimpArgs false
structure GR where
  t : T
  b : Int
/-- A row's four cells in an array. -/
structure Four (CS : Array Value) (i : Nat) (a b c d : Value) : Prop where
  c0 : CS[i]? = some a
  c1 : CS[i + 1]? = some b
  c2 : CS[i + 2]? = some c
  c3 : CS[i + 3]? = some d
/-- A row in an array at cell i, its fractions outside g and r. -/
def RowIn (W : World) (g r N : Nat) (CS : Array Value) (i : Nat) (x : GR) : Prop := ∃ (B : Option Addr) (m c : Nat), Four CS i (.slice B m c) (.int .i64 x.t.k.n) (.int .i64 x.t.k.d) (.int .i64 x.b) ∧ x.t.c.length = m ∧ m ≤ c ∧ Kd.F kQ W (fun k => k ≠ g ∧ k ≠ r ∧ k < N) B m x.t.c
/-- The rows of a state. -/
def RowsOf (W : World) (g : Nat) (A : Option Addr) (n cap : Nat) (rows : List GR) : Prop := rows.length = n ∧ n ≤ cap ∧ (0 < n → ∃ (r : Nat) (CS : Array Value), A = some ⟨r, 0, none⟩ ∧ g < r ∧ W.heap[r]? = some (.cells CS 85 (0, 0)) ∧ ∀ (k : Nat) (x : GR), rows[k]? = some x → RowIn W g r W.heap.size CS (k * 4) x)
theorem RowIn.move {W W1 : World} {g r N : Nat} {CS : Array Value} {i : Nat} {x : GR} (h : RowIn W g r N CS i x) (hk : Kept W W1 (fun k => k = g ∨ k = r)) : RowIn W1 g r N CS i x := by
  obtain ⟨B, m, c, h1, h2, h3, h4⟩ := h
  exact ⟨B, m, c, h1, h2, h3, Kd.F_kept h4 hk (fun k hk e => by omega)⟩
theorem RowIn.mono {W : World} {g r N N' : Nat} {CS : Array Value} {i : Nat} {x : GR} (h : RowIn W g r N CS i x) (hN : N ≤ N') : RowIn W g r N' CS i x := by
  obtain ⟨B, m, c, h1, h2, h3, h4⟩ := h
  exact ⟨B, m, c, h1, h2, h3, Kd.F_mono h4 (fun k hk => by omega)⟩
theorem RowsOf.move {W W1 : World} {g : Nat} {A : Option Addr} {n cap : Nat} {rows : List GR} (h : RowsOf W g A n cap rows) (hk : Kept W W1 (fun k => k = g)) : RowsOf W1 g A n cap rows := by
  obtain ⟨h1, h2, h3⟩ := h
  refine ⟨h1, h2, fun hn => ?_⟩
  obtain ⟨r, CS, e, hg, hb, hx⟩ := h3 hn
  exact ⟨r, CS, e, hg, blk_kept hb hk (by omega), fun k x hh => ((hx k x hh).move (hk.mono fun _ h => .inl h)).mono hk.1⟩
theorem RowsOf.below {W W1 : World} {g : Nat} {A : Option Addr} {n cap : Nat} {rows : List GR} (h : RowsOf W g A n cap rows) (hb : Below W.heap.size W W1) : RowsOf W1 g A n cap rows := h.move (Kept.of_below hb _)
theorem RowsOf.row {W : World} {g : Nat} {A : Option Addr} {n cap : Nat} {rows : List GR} (h : RowsOf W g A n cap rows) (k : Nat) (hk : k < n) : ∃ (r : Nat) (x : GR) (B : Option Addr) (m c : Nat), A = some ⟨r, 0, none⟩ ∧ g < r ∧ rows[k]? = some x ∧ W.cell? ⟨r, k * 4, none⟩ = some (.slice B m c) ∧ W.cell? ⟨r, k * 4 + 1, none⟩ = some (.int .i64 x.t.k.n) ∧ W.cell? ⟨r, k * 4 + 2, none⟩ = some (.int .i64 x.t.k.d) ∧ W.cell? ⟨r, k * 4 + 3, none⟩ = some (.int .i64 x.b) ∧ x.t.c.length = m ∧ m ≤ c ∧ Kd.F kQ W (fun k => k ≠ g ∧ k ≠ r ∧ k < W.heap.size) B m x.t.c := by
  obtain ⟨h1, h2, h3⟩ := h
  obtain ⟨r, CS, e, hg, hb, hx⟩ := h3 (by omega)
  have hkx : k < rows.length := by omega
  obtain ⟨B, m, c, hF, hm, hc, hK⟩ := hx k rows[k] (List.getElem?_eq_getElem hkx)
  exact ⟨r, rows[k], B, m, c, e, hg, List.getElem?_eq_getElem hkx, by simp [World.cell?, hb, hF.c0], by simp [World.cell?, hb, hF.c1], by simp [World.cell?, hb, hF.c2], by simp [World.cell?, hb, hF.c3], hm, hc, hK⟩
theorem At_calls' (t : T) (A : Option Addr) (cap n : Nat) (hn : t.c.length = n) (i : Int) (w : World) (hr : Kd.C kQ w A n t.c) :
    Calls Try.prog 64 #[.agg #[.slice A n cap, .int .i64 t.k.n, .int .i64 t.k.d], .int .i64 i] w fun e w' => e = .returned (.agg #[.int .i64 (atT t i).n, .int .i64 (atT t i).d]) ∧ Below w.heap.size w w' := by
  subst hn; exact At_calls t A cap i w hr
/-- A row that isn't taken and holds the variable. -/
def selB (v : Int) (x : GR) : Bool := x.b == -1 && (atT x.t v).n != 0
set_option maxRecDepth 8000 in
set_option maxHeartbeats 1000000 in
theorem solve1_calls (x : GR) (v : Int) (B : Option Addr) (m c b : Nat) (hm : x.t.c.length = m) (w : World) (hr : Kd.C kQ w B m x.t.c) (hb : w.heap[b]? = some (.cells #[.int .i64 v] 3 (0, 0))) :
    Calls Try.prog 63 #[.agg #[.slice B m c, .int .i64 x.t.k.n, .int .i64 x.t.k.d, .int .i64 x.b], .pointer (some ⟨b, 0, none⟩)] w fun e w' => e = .returned (.bool (selB v x)) ∧ Below w.heap.size w w' := by
  have HA := Lib.hid fun W hb => At_calls' x.t B c m hm v W (Kd.C_below (w1 := W) hr hb)
  have hbl : b < w.heap.size := blk_lt hb
  obtain ⟨⟨l, kn, kd⟩, by_⟩ := x
  have e0 : by_ ≠ -1 → selB v ⟨⟨l, kn, kd⟩, by_⟩ = false := fun h => by simp [selB, h]
  have e1 : by_ = -1 → selB v ⟨⟨l, kn, kd⟩, by_⟩ = ((atT ⟨l, ⟨kn, kd⟩⟩ v).n != 0) := fun h => by simp [selB, h]
  obtain ⟨R, hR⟩ : ∃ R, selB v ⟨⟨l, kn, kd⟩, by_⟩ = R := ⟨_, rfl⟩
  rw [hR] at e0 e1 ⊢
  dsimp only at *
  obtain ⟨q, hq⟩ : ∃ q, atT ⟨l, ⟨kn, kd⟩⟩ v = q := ⟨_, rfl⟩
  rw [hq] at HA e1
  obtain ⟨qn, qd⟩ := q
  dsimp only at *
  have hb_c0 : w.cell? ⟨b, 0, none⟩ = some (.int .i64 v) := blk_cell hb 0; have hb_f0 : w.frozen? ⟨b, 0, none⟩ = false := blk_frozen hb 0
  have hfd : ∀ w : World, (Instr.field 36 (.agg #[.int .i64 qn, .int .i64 qd]) 0).run Try.prog w = .ok (.int .i64 qn) w := fun _ => by kernel_rfl
  clear hr hm hR hq hb
  by_cases hby : by_ = -1
  · have E := Lib.hid (e1 hby)
    have hbe : (by_ == -1) = true := by simp [hby]
    clear e0 e1 hby
    go_enter Try.func63, Try.ntmps63
    go_wp2_with fail
    refine (HA.out _ (by repeat (first | exact Below.refl _ _ | assumption | exact Hid.out (by assumption) | (with_reducible first | refine bw_drewN ?_ _ | refine bw_alloc ?_ _ | refine bw_drew ?_) | (refine bw_set ?_ (by first | exact Nat.le_refl _ | (simp; done) | (simp; omega) | omega) _)))).mono ?_
    rintro e w1 ⟨rfl, hw1⟩
    have B1 : Below w.heap.size w w1 := bw_then (by repeat (first | exact Below.refl _ _ | assumption | exact Hid.out (by assumption) | (with_reducible first | refine bw_drewN ?_ _ | refine bw_alloc ?_ _ | refine bw_drew ?_) | (refine bw_set ?_ (by first | exact Nat.le_refl _ | (simp; done) | (simp; omega) | omega) _))) hw1
    go_wp2_with fail
    go_ret
    exact ⟨by rw [E.out]; rfl, B1⟩
  · have E := Lib.hid (e0 hby)
    have hbe : (by_ == -1) = false := by simp [hby]
    clear e0 e1 hby
    go_enter Try.func63, Try.ntmps63
    go_wp2_with fail
    go_ret
    exact ⟨by rw [E.out]; rfl, (by repeat (first | exact Below.refl _ _ | assumption | exact Hid.out (by assumption) | (with_reducible first | refine bw_drewN ?_ _ | refine bw_alloc ?_ _ | refine bw_drew ?_) | (refine bw_set ?_ (by first | exact Nat.le_refl _ | (simp; done) | (simp; omega) | omega) _)))⟩
set_option maxHeartbeats 2000000 in
theorem IndexRow_calls (v : Int) (b : Nat) (g : Nat) (A : Option Addr) (n c : Nat) (rows : List GR) (hmx : n ≤ 1000000) (w : World) (hr : RowsOf w g A n c rows) (hb : w.heap[b]? = some (.cells #[.int .i64 v] 3 (0, 0))) :
    Calls Try.prog 62 #[.slice A n c, .func (.func 63) #[] #[.pointer (some ⟨b, 0, none⟩)]] w fun e w' => e = .returned (.int .i64 (idxOf (selB v) rows)) ∧ Below w.heap.size w w' := by
  have HN := Lib.hid hr.1
  have HR := Lib.hid hr
  have HB := Lib.hid hb
  clear hr hb
  go_enter Try.func62, Try.ntmps62
  go_wp2_with fail
  go_loopw [8] (fun i wr => ∃ k : Nat, k ≤ n ∧ i = .int .i64 k ∧ Hid (∀ j (hj : j < rows.length), j < k → selB v rows[j] = false) ∧ Hid (Below w.heap.size w wr)) (fun i _ => n - (intOf i).toNat)
  case atStart => exact ⟨0, by omega, rfl, Lib.hid (fun j _ h => absurd h (by omega)), Lib.hid (Below.refl _ _)⟩
  case round =>
    obtain ⟨k, hk, rfl, hp, hB⟩ := hrel
    by_cases hlt : k < n
    · obtain ⟨r, x, B, m, c', rfl, hgr, hx, c0, c1, c2, c3, hm, hc, hF⟩ := (HR.out.below hB.out).row k hlt
      have hkx : k < rows.length := by rw [HN.out]; exact hlt
      have HX := Lib.hid hx
      have HS := Lib.hid (solve1_calls x v B m c' b hm _ (Kd.F_now hF) (blk_below HB.out hB.out))
      clear hx hF hm
      go_wp2_with fail
      refine (HS.out).mono ?_
      rintro e w1 ⟨rfl, hw1⟩
      have B1 := Lib.hid (bw_then hB.out hw1)
      cases hb : selB v x
      · go_wp2_with fail
        go_roundw
        case rel =>
          refine ⟨k + 1, by omega, by go_num, Lib.hid (fun j hj h => ?_), B1⟩
          by_cases e : j = k
          · subst e
            have := HX.out
            rw [List.getElem?_eq_getElem hkx] at this
            injection this with this
            rw [this]; exact hb
          · exact hp.out j hj (by omega)
        case measure => simp [intOf]; omega
      · go_wp2_with fail
        go_ret
        refine ⟨ret_int ?_, B1.out⟩
        have := HX.out
        rw [List.getElem?_eq_getElem hkx] at this
        injection this with this
        rw [idxOf_some hkx (by rw [this, hb]) (fun j hj => hp.out j (by omega) hj)]
    · go_wp2_with fail
      go_ret
      refine ⟨ret_int ?_, hB.out⟩
      rw [idxOf_none (fun j hj => hp.out j hj (by have := HN.out; omega))]
end Go.Proofs.Ytffpdaejemmgpaa.W
