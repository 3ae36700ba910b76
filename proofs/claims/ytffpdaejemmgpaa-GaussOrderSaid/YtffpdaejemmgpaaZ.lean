/- This file holds the walks of slices.IndexFunc and ContainsFunc over terms. -/
import Derived.Test.YtffpdaejemmgpaaY
namespace Go.Proofs.Ytffpdaejemmgpaa.W
open Go.RowKit Go.Proofs.YtffpdaejemmgpaaW.PrintWords Go.Proofs.YtffpdaejemmgpaaW.PrintMore
set_option linter.unusedVariables false
set_option linter.unusedSimpArgs false
def zT : T := ⟨[], ⟨0, 0⟩⟩
theorem kT_open {w : World} {x : T} {cs : List Value} (h : kT.K w x cs) : ∃ (B : Option Addr) (m c : Nat), cs = [.slice B m c, .int .i64 x.k.n, .int .i64 x.k.d] ∧ x.c.length = m ∧ m ≤ c ∧ Kd.C kQ w B m x.c := by
  obtain ⟨c0, c1, rfl, ⟨B, c, rfl, h1, h2⟩, h3⟩ := h
  obtain rfl := kQ_open h3
  exact ⟨B, _, c, rfl, rfl, h1, h2⟩
theorem kT_mk {w : World} {x : T} {B : Option Addr} {m c : Nat} (hm : x.c.length = m) (hc : m ≤ c) (h : Kd.C kQ w B m x.c) : kT.K w x [.slice B m c, .int .i64 x.k.n, .int .i64 x.k.d] := by
  subst hm
  exact ⟨[.slice B x.c.length c], [.int .i64 x.k.n, .int .i64 x.k.d], rfl, ⟨B, c, rfl, hc, h⟩, kQ_mk _ _⟩
theorem kT_at {w : World} {A : Option Addr} {n : Nat} {xs : List T} (h : Kd.C kT w A n xs) (i : Nat) (h1 : i < n) : ∃ (ad : Addr) (B : Option Addr) (m c : Nat), A = some ad ∧ w.cell? (ad.add (i * 3)) = some (.slice B m c) ∧ w.cell? ⟨(ad.add (i * 3)).block, (ad.add (i * 3)).off + 1, none⟩ = some (.int .i64 (xs.getD i zT).k.n) ∧ w.cell? ⟨(ad.add (i * 3)).block, (ad.add (i * 3)).off + 2, none⟩ = some (.int .i64 (xs.getD i zT).k.d) ∧ (xs.getD i zT).c.length = m ∧ m ≤ c ∧ Kd.C kQ w B m (xs.getD i zT).c := by
  obtain ⟨ad, c, e, _, hK, hc0⟩ := Kd.C_get h zT (i : Int) (by omega) (by omega)
  rw [Int.toNat_natCast] at hK hc0
  have hc : ∀ j u, c[j]? = some u → w.cell? (ad.add (i * 3 + j)) = some u := hc0
  obtain ⟨B, m, cc, rfl, h2, h3, h4⟩ := kT_open hK
  exact ⟨ad, B, m, cc, e, hc 0 _ rfl, by rw [← add_field _ _ 1 (by omega)]; exact hc 1 _ rfl, by rw [← add_field _ _ 2 (by omega)]; exact hc 2 _ rfl, h2, h3, h4⟩
set_option maxHeartbeats 1000000 in
theorem Solve1_calls (t : T) (B : Option Addr) (m c : Nat) (hm : t.c.length = m) (hw : t.wf) (w : World) (hr : Kd.C kQ w B m t.c) :
    Calls Try.prog 34 #[.agg #[.slice B m c, .int .i64 t.k.n, .int .i64 t.k.d]] w fun e w' => e = .returned (.bool (!rightT t)) ∧ Below w.heap.size w w' := by
  have HT := Lib.hid fun W hb => TRight_calls' t B c m hm hw W (Kd.C_below (w1 := W) hr hb)
  generalize rightT t = r at *
  obtain ⟨l, kn, kd⟩ := t
  dsimp only at *
  clear hr hm hw
  go_enter Try.func34, Try.ntmps34
  go_wp2_with fail
  refine (HT.out _ (by repeat (first | exact Below.refl _ _ | assumption | exact Hid.out (by assumption) | (with_reducible first | refine bw_drewN ?_ _ | refine bw_alloc ?_ _ | refine bw_drew ?_) | (refine bw_set ?_ (by first | exact Nat.le_refl _ | (simp; done) | (simp; omega) | omega) _)))).mono ?_
  rintro e w1 ⟨rfl, hw1⟩
  have B1 : Below w.heap.size w w1 := bw_then (by repeat (first | exact Below.refl _ _ | assumption | exact Hid.out (by assumption) | (with_reducible first | refine bw_drewN ?_ _ | refine bw_alloc ?_ _ | refine bw_drew ?_) | (refine bw_set ?_ (by first | exact Nat.le_refl _ | (simp; done) | (simp; omega) | omega) _))) hw1
  go_wp2_with fail
  go_ret
  exact ⟨ret_bool rfl, B1⟩
set_option maxHeartbeats 2000000 in
theorem IndexTerm_calls (A : Option Addr) (n c : Nat) (xs : List T) (hn : xs.length = n) (hwf : ∀ t ∈ xs, t.wf) (w : World) (hr : Kd.C kT w A n xs) :
    Calls Try.prog 56 #[.slice A n c, .func (.func 34) #[] #[]] w fun e w' => e = .returned (.int .i64 (idxOf (fun q => !rightT q) xs)) ∧ Below w.heap.size w w' := by
  have hm := hr.2.1
  have HW := Lib.hid hwf
  have HN := Lib.hid hn
  have HRr := Lib.hid hr
  clear hwf hn hr
  go_enter Try.func56, Try.ntmps56
  go_wp2_with fail
  go_loopw [8] (fun i wr => ∃ k : Nat, k ≤ n ∧ i = .int .i64 k ∧ Hid (∀ j (hj : j < xs.length), j < k → rightT xs[j] = true) ∧ Hid (Below w.heap.size w wr)) (fun i _ => n - (intOf i).toNat)
  case atStart => exact ⟨0, by omega, rfl, Lib.hid (fun j _ h => absurd h (by omega)), Lib.hid (Below.refl _ _)⟩
  case round =>
    obtain ⟨k, hk, rfl, hp, hB⟩ := hrel
    by_cases hlt : k < n
    · obtain ⟨ad, B, m, cc, rfl, c0, c1, c2, hmm, _, hC⟩ := kT_at (Kd.C_below HRr.out hB.out) k hlt
      have hkx : k < xs.length := by rw [HN.out]; exact hlt
      have hq : xs.getD k zT = xs[k] := by rw [List.getD_eq_getElem?_getD, List.getElem?_eq_getElem hkx]; rfl
      rw [hq] at c1 c2 hmm hC
      have hwq := HW.out _ (List.getElem_mem hkx)
      generalize hxq : xs[k] = q at *
      have HX := Lib.hid hxq
      have HS := Lib.hid (Solve1_calls q B m cc hmm hwq _ hC)
      clear hq hxq hwq hmm hC
      go_wp2_with fail
      refine (HS.out).mono ?_
      rintro e w1 ⟨rfl, hw1⟩
      have B1 := Lib.hid (bw_then hB.out hw1)
      cases hb : rightT q
      · go_wp2_with fail
        go_ret
        refine ⟨ret_int ?_, B1.out⟩
        rw [idxOf_some hkx (by rw [HX.out, hb]; rfl) (fun j hj => by rw [hp.out j (by omega) hj]; rfl)]
      · go_wp2_with fail
        go_roundw
        case rel =>
          refine ⟨k + 1, by omega, by go_num, Lib.hid (fun j hj h => ?_), B1⟩
          by_cases e : j = k
          · subst e; rw [HX.out]; exact hb
          · exact hp.out j hj (by omega)
        case measure => simp [intOf]; omega
    · go_wp2_with fail
      go_ret
      refine ⟨ret_int ?_, hB.out⟩
      rw [idxOf_none (fun j hj => by rw [hp.out j hj (by have := HN.out; omega)]; rfl)]
set_option maxHeartbeats 1000000 in
theorem ContainsTerm_calls (A : Option Addr) (n c : Nat) (xs : List T) (hn : xs.length = n) (hwf : ∀ t ∈ xs, t.wf) (w : World) (hr : Kd.C kT w A n xs) :
    Calls Try.prog 33 #[.slice A n c, .func (.func 34) #[] #[]] w fun e w' => e = .returned (.bool (xs.any fun q => !rightT q)) ∧ Below w.heap.size w w' := by
  have HI := Lib.hid (IndexTerm_calls A n c xs hn hwf w hr)
  have HA := Lib.hid (idxOf_any (fun q => !rightT q) xs)
  clear hwf hr hn
  generalize idxOf (fun q => !rightT q) xs = r at *
  go_enter Try.func33, Try.ntmps33
  go_wp2_with fail
  refine HI.out.mono ?_
  rintro e w1 ⟨rfl, hw1⟩
  go_wp2_with fail
  go_ret
  exact ⟨ret_bool HA.out, hw1⟩
end Go.Proofs.Ytffpdaejemmgpaa.W
