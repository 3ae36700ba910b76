/- This file holds the walks of slices.IndexFunc and ContainsFunc over fractions. -/
import Derived.Test.YtffpdaejemmgpaaI
namespace Go.Proofs.Ytffpdaejemmgpaa.W
open Go.RowKit Go.Proofs.YtffpdaejemmgpaaW.PrintWords
set_option linter.unusedVariables false
set_option linter.unusedSimpArgs false
def zQ : Q := ⟨0, 0⟩
/-- A fraction's two cells. -/
def kQ : Kd Q := Kd.iso (Kd.pair (Kd.int .i64) (Kd.int .i64)) (fun x : Q => (x.n, x.d))
theorem kQ_open {w : World} {x : Q} {cs : List Value} (h : kQ.K w x cs) : cs = [.int .i64 x.n, .int .i64 x.d] := by
  obtain ⟨_, _, rfl, rfl, rfl⟩ := h
  exact rfl
theorem kQ_mk (w : World) (x : Q) : kQ.K w x [.int .i64 x.n, .int .i64 x.d] := ⟨[.int .i64 x.n], [.int .i64 x.d], rfl, rfl, rfl⟩
theorem kQ_mkM (w : World) (base : Nat) (ok : Nat → Prop) (x : Q) : kQ.M w base ok x [.int .i64 x.n, .int .i64 x.d] := ⟨[.int .i64 x.n], [.int .i64 x.d], rfl, rfl, rfl⟩
def vQ (x : Q) : Value := .agg #[.int .i64 x.n, .int .i64 x.d]
theorem kQ_at {w : World} {A : Option Addr} {n : Nat} {xs : List Q} (h : Kd.C kQ w A n xs) (i : Nat) (h1 : i < n) : ∃ ad, A = some ad ∧ w.cell? (ad.add (i * 2)) = some (.int .i64 (xs.getD i zQ).n) ∧ w.cell? ⟨(ad.add (i * 2)).block, (ad.add (i * 2)).off + 1, none⟩ = some (.int .i64 (xs.getD i zQ).d) := by
  obtain ⟨ad, c, e, _, hK, hc0⟩ := Kd.C_get h zQ (i : Int) (by omega) (by omega)
  rw [Int.toNat_natCast] at hK hc0
  have hc : ∀ j u, c[j]? = some u → w.cell? (ad.add (i * 2 + j)) = some u := hc0
  obtain rfl := kQ_open hK
  exact ⟨ad, e, hc 0 _ rfl, by rw [← add_field _ _ 1 (by omega)]; exact hc 1 _ rfl⟩
set_option maxHeartbeats 1000000 in
theorem Right1_calls (q : Q) (hq : q.wf) (w : World) :
    Calls Try.prog 59 #[.agg #[.int .i64 q.n, .int .i64 q.d]] w fun e w' => e = .returned (.bool (!rightB q)) ∧ Below w.heap.size w w' := by
  obtain ⟨n, d⟩ := q
  obtain ⟨⟨a0, a1⟩, a2, a3⟩ := hq
  dsimp only at *
  generalize hr : rightB ⟨n, d⟩ = r
  have HR := Lib.hid hr
  clear hr
  go_enter Try.func59, Try.ntmps59
  go_wp2_with fail
  refine (Right_calls n d a0 a1 a2 a3 _).mono ?_
  rintro e w1 ⟨rfl, hw1⟩
  rw [HR.out]
  have B1 : Below w.heap.size w w1 := bw_then (by repeat (first | exact Below.refl _ _ | assumption | exact Hid.out (by assumption) | (with_reducible first | refine bw_drewN ?_ _ | refine bw_alloc ?_ _ | refine bw_drew ?_) | (refine bw_set ?_ (by first | exact Nat.le_refl _ | (simp; done) | (simp; omega) | omega) _))) hw1
  go_wp2_with fail
  go_ret
  exact ⟨ret_bool rfl, B1⟩
/-- Where the first is that is so; -1. -/
def idxOf {α : Type} (p : α → Bool) (xs : List α) : Int := match xs.findIdx? p with | some i => (i : Int) | none => -1
theorem idxOf_some {α : Type} {p : α → Bool} {xs : List α} {i : Nat} (h : i < xs.length) (h1 : p xs[i] = true) (h2 : ∀ j (hj : j < i), p (xs[j]'(by omega)) = false) : idxOf p xs = (i : Int) := by
  unfold idxOf
  have : xs.findIdx? p = some i := by
    rw [List.findIdx?_eq_some_iff_getElem]
    exact ⟨h, h1, fun j hj => by rw [h2 j hj]; simp⟩
  rw [this]
theorem idxOf_none {α : Type} {p : α → Bool} {xs : List α} (h : ∀ j (hj : j < xs.length), p xs[j] = false) : idxOf p xs = -1 := by
  unfold idxOf
  have : xs.findIdx? p = none := by
    rw [List.findIdx?_eq_none_iff]
    intro x hx
    obtain ⟨j, hj, rfl⟩ := List.getElem_of_mem hx
    exact h j hj
  rw [this]
theorem idxOf_any {α : Type} (p : α → Bool) (xs : List α) : decide (0 ≤ idxOf p xs) = xs.any p := by
  unfold idxOf
  cases h : xs.findIdx? p with
  | none =>
    rw [List.findIdx?_eq_none_iff] at h
    have : xs.any p = false := by rw [List.any_eq_false]; intro x hx; rw [h x hx]; simp
    rw [this]; decide
  | some i =>
    rw [List.findIdx?_eq_some_iff_getElem] at h
    obtain ⟨hi, hp, _⟩ := h
    have : xs.any p = true := by rw [List.any_eq_true]; exact ⟨_, List.getElem_mem hi, hp⟩
    rw [this]; simp
set_option maxHeartbeats 2000000 in
theorem IndexRat_calls (A : Option Addr) (c : Nat) (xs : List Q) (hwf : ∀ q ∈ xs, q.wf) (w : World) (hr : Kd.C kQ w A xs.length xs) :
    Calls Try.prog 93 #[.slice A xs.length c, .func (.func 59) #[] #[]] w fun e w' => e = .returned (.int .i64 (idxOf (fun q => !rightB q) xs)) ∧ Below w.heap.size w w' := by
  have hm := hr.2.1
  generalize hn : xs.length = n at *
  have HW := Lib.hid hwf
  have HN := Lib.hid hn
  have HRr := Lib.hid hr
  clear hwf hn hr
  go_enter Try.func93, Try.ntmps93
  go_wp2_with fail
  go_loopw [8] (fun i wr => ∃ k : Nat, k ≤ n ∧ i = .int .i64 k ∧ Hid (∀ j (hj : j < xs.length), j < k → rightB xs[j] = true) ∧ Hid (Below w.heap.size w wr)) (fun i _ => n - (intOf i).toNat)
  case atStart => exact ⟨0, by omega, rfl, Lib.hid (fun j _ h => absurd h (by omega)), Lib.hid (Below.refl _ _)⟩
  case round =>
    obtain ⟨k, hk, rfl, hp, hB⟩ := hrel
    by_cases hlt : k < n
    · obtain ⟨ad, rfl, c0, c1⟩ := kQ_at (Kd.C_below HRr.out hB.out) k hlt
      have hkx : k < xs.length := by rw [HN.out]; exact hlt
      have hq : xs.getD k zQ = xs[k] := by rw [List.getD_eq_getElem?_getD, List.getElem?_eq_getElem hkx]; rfl
      rw [hq] at c0 c1
      have hwq := HW.out _ (List.getElem_mem hkx)
      generalize hxq : xs[k] = q at *
      have HX := Lib.hid hxq
      have HWQ := Lib.hid hwq
      clear hq hxq hwq
      go_wp2_with fail
      refine (Right1_calls q HWQ.out _).mono ?_
      rintro e w1 ⟨rfl, hw1⟩
      have B1 := Lib.hid (bw_then hB.out hw1)
      cases hb : rightB q
      · go_wp2_with fail
        go_ret
        refine ⟨ret_int ?_, B1.out⟩
        rw [idxOf_some hkx (by rw [HX.out, hb]; rfl) (fun j hj => by rw [hp.out j (by omega) hj]; rfl)]
      · go_wp2_with fail
        go_roundw
        case rel =>
          refine ⟨k + 1, by omega, by go_num, Lib.hid (fun j hj h => ?_), B1⟩
          by_cases e : j = k
          · subst e; rw [HX.out]; exact hb
          · exact hp.out j hj (by omega)
        case measure => simp [intOf]; omega
    · go_wp2_with fail
      go_ret
      refine ⟨ret_int ?_, hB.out⟩
      rw [idxOf_none (fun j hj => by rw [hp.out j hj (by have := HN.out; omega)]; rfl)]
set_option maxHeartbeats 1000000 in
theorem ContainsRat_calls (A : Option Addr) (c : Nat) (xs : List Q) (hwf : ∀ q ∈ xs, q.wf) (w : World) (hr : Kd.C kQ w A xs.length xs) :
    Calls Try.prog 58 #[.slice A xs.length c, .func (.func 59) #[] #[]] w fun e w' => e = .returned (.bool (xs.any fun q => !rightB q)) ∧ Below w.heap.size w w' := by
  have HI := Lib.hid (IndexRat_calls A c xs hwf w hr)
  have HA := Lib.hid (idxOf_any (fun q => !rightB q) xs)
  clear hwf hr
  generalize idxOf (fun q => !rightB q) xs = r at *
  go_enter Try.func58, Try.ntmps58
  go_wp2_with fail
  refine HI.out.mono ?_
  rintro e w1 ⟨rfl, hw1⟩
  go_wp2_with fail
  go_ret
  exact ⟨ret_bool HA.out, hw1⟩
end Go.Proofs.Ytffpdaejemmgpaa.W
